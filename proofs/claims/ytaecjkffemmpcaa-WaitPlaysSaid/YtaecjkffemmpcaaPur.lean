/- Plain laws on the printed functions of palaverref12 (texts, rising, each once): no memory, no program. -/
import Derived.Test.YtaecjkffemmpcaaPRefx
import Derived.Test.YtaecjkffemmpcaaSrt
import Derived.Test.YtaecjkffemmpcaaLib3
namespace Go.Proofs.Ytaecjkffemmpcaa
open Go.RowKit Go.Proofs.YtaecjkffemmpcaaW.PrintWords Go.Proofs.Ytaecjkffemmpcaa.PRef

def ltS (a b : ByteArray) : Prop := a.data.toList < b.data.toList
instance (a b : ByteArray) : Decidable (ltS a b) := inferInstanceAs (Decidable (a.data.toList < b.data.toList))
def SRising (l : List ByteArray) : Prop := l.Pairwise ltS

theorem ltS_irrefl (a : ByteArray) : ¬ ltS a a := Std.lt_irrefl
theorem ltS_trans {a b c : ByteArray} (h : ltS a b) (k : ltS b c) : ltS a c := Std.lt_trans h k
theorem ltS_total {a b : ByteArray} (h : ¬ ltS a b) (hne : a ≠ b) : ltS b a := by
  unfold ltS at *
  rw [Std.not_lt] at h
  exact Std.lt_of_le_of_ne h (fun e => hne (WideShapes.bytes_inj e.symm))

theorem less_eq (a b : ByteArray) : Op.bytesLess a.toList b.toList = decide (ltS a b) := by
  rw [Go.Proofs.bytesLess_eq, ByteArray.toList_eq, ByteArray.toList_eq]
  rfl

theorem toList_iff (a b : ByteArray) : a.toList = b.toList ↔ a = b := by
  rw [ByteArray.toList_eq, ByteArray.toList_eq]
  exact ⟨fun h => WideShapes.bytes_inj h, fun h => by rw [h]⟩

theorem Rising.strict {l : List ByteArray} (h : Rising l) (hn : l.Nodup) : SRising l := by
  have : l.Pairwise (fun a b => a.data.toList ≤ b.data.toList ∧ a ≠ b) := List.Pairwise.and h hn
  exact this.imp fun {a b} ⟨h1, h2⟩ => Std.lt_of_le_of_ne h1 (fun e => h2 (WideShapes.bytes_inj e))

/-- Two rising lists of the same texts are one. -/
theorem srising_eq : ∀ {a b : List ByteArray}, SRising a → SRising b → (∀ s, s ∈ a ↔ s ∈ b) → a = b
  | [], [], _, _, _ => rfl
  | [], y :: b, _, _, h => by have := (h y).2 (by simp); simp at this
  | x :: a, [], _, _, h => by have := (h x).1 (by simp); simp at this
  | x :: a, y :: b, ha, hb, h => by
    obtain ⟨ha1, ha2⟩ := List.pairwise_cons.1 ha
    obtain ⟨hb1, hb2⟩ := List.pairwise_cons.1 hb
    have hxy : x = y := by
      have h1 : x ∈ y :: b := (h x).1 (by simp)
      have h2 : y ∈ x :: a := (h y).2 (by simp)
      rcases List.mem_cons.1 h1 with e | h1
      · exact e
      · rcases List.mem_cons.1 h2 with e | h2
        · exact e.symm
        · exact absurd (ltS_trans (ha1 y h2) (hb1 x h1)) (ltS_irrefl x)
    subst hxy
    congr 1
    refine srising_eq ha2 hb2 fun s => ?_
    have hs := h s
    simp only [List.mem_cons] at hs
    constructor
    · intro hsa
      rcases hs.1 (.inr hsa) with e | h'
      · subst e; exact absurd (ha1 s hsa) (ltS_irrefl s)
      · exact h'
    · intro hsb
      rcases hs.2 (.inr hsb) with e | h'
      · subst e; exact absurd (hb1 s hsb) (ltS_irrefl s)
      · exact h'

theorem wrapS {i : Nat} (h : i < 4611686018427387904) : wrap64 ((i : Int) + 1) = ((i + 1 : Nat) : Int) := by
  unfold wrap64; omega

theorem rdOf_nat {α : Type} (d : α) (xs : List α) (i : Nat) : rdOf d xs (i : Int) = xs.getD i d := by simp [rdOf]
theorem rdOf_at {α : Type} {d : α} {xs : List α} {i : Nat} (h : i < xs.length) : rdOf d xs (i : Int) = xs[i] := by
  rw [rdOf_nat, List.getD_eq_getElem?_getD, List.getElem?_eq_getElem h]; rfl

theorem inB_cons (x : ByteArray) (l : List ByteArray) (s : ByteArray) : inB (x :: l) s = (decide (x = s) || inB l s) := rfl

/-! ### Has -/
theorem has_ev (l : List ByteArray) (s : ByteArray) (hl : l.length ≤ 1000000) : Ev (fun k => palaverref12_Has.f k l s) (inB l s) := by
  have key : ∀ d i, i ≤ l.length → l.length - i = d → Ev (fun k => palaverref12_Has.l0 k l s (i : Int)) (inB (l.drop i) s) := by
    intro d
    induction d with
    | zero =>
      intro i hi hd
      have e : i = l.length := by omega
      refine Ev.step (f := fun _ => some false) (fun k => ?_) ?_
      · simp only [palaverref12_Has.l0]; rw [if_neg (by omega)]
      · rw [e, List.drop_length]; exact Ev.now _
    | succ d ih =>
      intro i hi hd
      have hlt : i < l.length := by omega
      by_cases he : l[i] = s
      · refine Ev.step (f := fun _ => some true) (fun k => ?_) ?_
        · simp only [palaverref12_Has.l0]; rw [if_pos (by omega), if_pos (by omega), rdOf_at hlt, if_pos ((toList_iff _ _).2 he)]
        · have : inB (l.drop i) s = true := by
            rw [List.drop_eq_getElem_cons hlt, inB_cons]
            simp only [he, decide_true, Bool.true_or]
          rw [this]; exact Ev.now _
      · refine Ev.step (f := fun k => palaverref12_Has.l0 k l s ((i + 1 : Nat) : Int)) (fun k => ?_) ?_
        · simp only [palaverref12_Has.l0]; rw [if_pos (by omega), if_pos (by omega), rdOf_at hlt, if_neg (fun h => he ((toList_iff _ _).1 h)), wrapS (by omega)]
        · have : inB (l.drop i) s = inB (l.drop (i + 1)) s := by
            rw [List.drop_eq_getElem_cons hlt, inB_cons]
            simp only [he, decide_false, Bool.false_or]
          rw [this]; exact ih (i + 1) (by omega) (by omega)
  exact key l.length 0 (Nat.zero_le _) rfl

/-! ### Sorted -/
def below (s x : ByteArray) : Bool := decide (ltS x s)
def insAt (out : List ByteArray) (s : ByteArray) : Nat := (out.takeWhile (below s)).length
def ins1 (out : List ByteArray) (s : ByteArray) : List ByteArray := if inB out s then out else out.take (insAt out s) ++ s :: out.drop (insAt out s)

theorem insAt_le (out : List ByteArray) (s : ByteArray) : insAt out s ≤ out.length := (List.takeWhile_prefix _).length_le

theorem below_at {out : List ByteArray} {s : ByteArray} {j : Nat} (h : j < insAt out s) (hj : j < out.length) : ltS out[j] s := by
  have hp := List.takeWhile_prefix (l := out) (below s)
  have e : out[j] = (out.takeWhile (below s))[j]'h := (hp.getElem h).symm
  have hm : (out.takeWhile (below s))[j]'h ∈ out.takeWhile (below s) := List.getElem_mem _
  have := List.all_takeWhile (l := out) (p := below s)
  rw [List.all_eq_true] at this
  have := this _ hm
  rw [e]
  simpa [below] using this

theorem not_below_at {out : List ByteArray} {s : ByteArray} (h : insAt out s < out.length) : ¬ ltS out[insAt out s] s := by
  intro hc
  unfold insAt at h hc
  have hb : below s (out[(out.takeWhile (below s)).length]) = true := by simpa [below] using hc
  induction out with
  | nil => simp at h
  | cons x out ih =>
    by_cases hx : below s x = true
    · simp only [List.takeWhile_cons, hx, if_true, List.length_cons, List.getElem_cons_succ, Nat.add_lt_add_iff_right] at h hc hb
      exact ih h hc hb
    · simp only [List.takeWhile_cons, hx, Bool.false_eq_true, if_false, List.length_nil, List.getElem_cons_zero] at hb

theorem ins1_mem (out : List ByteArray) (s x : ByteArray) : x ∈ ins1 out s ↔ x ∈ out ∨ x = s := by
  unfold ins1
  split
  · rename_i h
    have := inB_iff.1 h
    exact ⟨.inl, fun h => h.elim (fun h => h) (fun e => e ▸ this)⟩
  · have : x ∈ out ↔ x ∈ out.take (insAt out s) ∨ x ∈ out.drop (insAt out s) := by rw [← List.mem_append, List.take_append_drop]
    rw [List.mem_append, List.mem_cons, this]
    constructor
    · rintro (h | h | h)
      · exact .inl (.inl h)
      · exact .inr h
      · exact .inl (.inr h)
    · rintro ((h | h) | h)
      · exact .inl h
      · exact .inr (.inr h)
      · exact .inr (.inl h)

theorem ins1_rising {out : List ByteArray} (h : SRising out) (s : ByteArray) : SRising (ins1 out s) := by
  unfold ins1
  split
  · exact h
  · rename_i hin
    have hns : s ∉ out := fun hm => hin (inB_iff.2 hm)
    have h' : SRising (out.take (insAt out s) ++ out.drop (insAt out s)) := by rw [List.take_append_drop]; exact h
    obtain ⟨h1, h2, h3⟩ := List.pairwise_append.1 h'
    have hlo : ∀ x ∈ out.take (insAt out s), ltS x s := by
      intro x hx
      obtain ⟨j, hj⟩ := List.getElem?_of_mem hx
      rw [List.getElem?_take] at hj
      split at hj
      · rename_i hlt
        obtain ⟨hjl, rfl⟩ := List.getElem?_eq_some_iff.1 hj
        exact below_at hlt hjl
      · cases hj
    have hhi : ∀ x ∈ out.drop (insAt out s), ltS s x := by
      intro x hx
      obtain ⟨j, hj⟩ := List.getElem?_of_mem hx
      rw [List.getElem?_drop] at hj
      obtain ⟨hjl, rfl⟩ := List.getElem?_eq_some_iff.1 hj
      have hat : insAt out s < out.length := by omega
      have hn := not_below_at hat
      have h0 : ltS s out[insAt out s] := ltS_total hn (fun e => hns (e ▸ List.getElem_mem _))
      rcases Nat.eq_zero_or_pos j with e | e
      · subst e; simpa using h0
      · exact ltS_trans h0 (List.pairwise_iff_getElem.1 h _ _ hat hjl (by omega))
    refine List.pairwise_append.2 ⟨h1, List.pairwise_cons.2 ⟨hhi, h2⟩, fun x hx y hy => ?_⟩
    rcases List.mem_cons.1 hy with rfl | hy
    · exact hlo x hx
    · exact h3 x hx y hy

theorem ins1_length (out : List ByteArray) (s : ByteArray) : (ins1 out s).length ≤ out.length + 1 := by
  unfold ins1
  split
  · omega
  · simp only [List.length_append, List.length_take, List.length_cons, List.length_drop]
    omega

def srt (l : List ByteArray) : List ByteArray := l.foldl ins1 []

theorem foldl_ins1 (l : List ByteArray) : ∀ out, SRising out → SRising (l.foldl ins1 out) ∧ (∀ x, x ∈ l.foldl ins1 out ↔ x ∈ out ∨ x ∈ l) ∧ (l.foldl ins1 out).length ≤ out.length + l.length := by
  induction l with
  | nil => intro out h; exact ⟨h, by simp, by simp⟩
  | cons s l ih =>
    intro out h
    obtain ⟨h1, h2, h3⟩ := ih (ins1 out s) (ins1_rising h s)
    refine ⟨h1, fun x => ?_, ?_⟩
    · rw [List.foldl_cons, h2, ins1_mem, List.mem_cons]
      constructor
      · rintro ((h | h) | h)
        · exact .inl h
        · exact .inr (.inl h)
        · exact .inr (.inr h)
      · rintro (h | h | h)
        · exact .inl (.inl h)
        · exact .inl (.inr h)
        · exact .inr h
    · have := ins1_length out s
      simp only [List.foldl_cons, List.length_cons]
      omega

theorem srt_rising (l : List ByteArray) : SRising (srt l) := (foldl_ins1 l [] List.Pairwise.nil).1
theorem srt_mem (l : List ByteArray) (x : ByteArray) : x ∈ srt l ↔ x ∈ l := by have := (foldl_ins1 l [] List.Pairwise.nil).2.1 x; simpa [srt] using this
theorem srt_length (l : List ByteArray) : (srt l).length ≤ l.length := by have := (foldl_ins1 l [] List.Pairwise.nil).2.2; simpa [srt] using this

/-- The shift: xs holds out below p, and out, moved on by one, above p. -/
def Shifted (out xs : List ByteArray) (p : Nat) : Prop := xs.length = out.length + 1 ∧ (∀ j, j < p → xs[j]? = out[j]?) ∧ ∀ j, p < j → xs[j]? = out[j - 1]?

theorem shifted_set {out xs : List ByteArray} {a : Nat} (h : Shifted out xs a) (ha : a ≤ out.length) (s : ByteArray) : xs.set a s = out.take a ++ s :: out.drop a := by
  obtain ⟨h1, h2, h3⟩ := h
  apply List.ext_getElem?
  intro j
  rw [List.getElem?_set]
  rcases Nat.lt_trichotomy j a with hj | hj | hj
  · rw [if_neg (by omega), h2 j hj, List.getElem?_append_left (by simp; omega), List.getElem?_take, if_pos hj]
  · subst hj
    rw [if_pos rfl, if_pos (by omega), List.getElem?_append_right (by simp; omega)]
    simp [Nat.min_eq_left ha]
  · rw [if_neg (by omega), h3 j hj, List.getElem?_append_right (by simp; omega)]
    simp only [List.length_take, Nat.min_eq_left ha]
    obtain ⟨m, rfl⟩ : ∃ m, j = a + (m + 1) := ⟨j - a - 1, by omega⟩
    rw [show a + (m + 1) - a = m + 1 by omega, List.getElem?_cons_succ, List.getElem?_drop]
    congr 1

theorem sorted_l2 (l out : List ByteArray) (hl : l.length ≤ 1000000) (hout : out.length ≤ 1000000) (i : Nat) (hi : i < l.length) (a : Nat) (ha : a ≤ out.length) (r : List ByteArray)
    (hr : Ev (fun k => palaverref12_Sorted.l0 k l (out.take a ++ l[i] :: out.drop a) ((i + 1 : Nat) : Int)) r) :
    ∀ d p xs, p - a = d → a ≤ p → p ≤ out.length → Shifted out xs p → Ev (fun k => palaverref12_Sorted.l2 k l xs (i : Int) (a : Int) (p : Int)) r := by
  intro d
  induction d with
  | zero =>
    intro p xs hd hap hp hs
    obtain rfl : p = a := by omega
    refine Ev.step (f := fun k => palaverref12_Sorted.l0 k l (out.take p ++ l[i] :: out.drop p) ((i + 1 : Nat) : Int)) (fun k => ?_) hr
    simp only [palaverref12_Sorted.l2]
    rw [if_neg (by omega), if_pos (by omega), if_pos (by omega), if_pos (by omega), if_pos (by have := hs.1; omega), rdOf_at hi, wrapS (by omega)]
    rw [show ((p : Int)).toNat = p by omega, shifted_set hs hp]
  | succ d ih =>
    intro p xs hd hap hp hs
    have hw : wrap64 ((p : Int) - 1) = ((p - 1 : Nat) : Int) := by unfold wrap64; omega
    have hxl := hs.1
    refine Ev.step (f := fun k => palaverref12_Sorted.l2 k l (xs.set p (xs.getD (p - 1) ByteArray.empty)) (i : Int) (a : Int) ((p - 1 : Nat) : Int)) (fun k => ?_) ?_
    · simp only [palaverref12_Sorted.l2]
      rw [if_pos (by omega), hw, if_pos (by omega), if_pos (by omega), if_pos (by omega), if_pos (by omega), rdOf_nat, show ((p : Int)).toNat = p by omega]
    · refine ih (p - 1) _ (by omega) (by omega) (by omega) ⟨by simp [hxl], fun j hj => ?_, fun j hj => ?_⟩
      · rw [List.getElem?_set, if_neg (by omega)]
        exact hs.2.1 j (by omega)
      · rw [List.getElem?_set]
        by_cases e : p = j
        · subst e
          rw [if_pos rfl, if_pos (by omega)]
          have h1 := hs.2.1 (p - 1) (by omega)
          rw [List.getElem?_eq_getElem (show p - 1 < out.length by omega)] at h1
          rw [List.getElem?_eq_getElem (show p - 1 < out.length by omega), List.getD_eq_getElem?_getD, h1]
          rfl
        · rw [if_neg e]
          exact hs.2.2 j (by omega)

theorem sorted_l1 (l out : List ByteArray) (hl : l.length ≤ 1000000) (hout : out.length ≤ 1000000) (i : Nat) (hi : i < l.length) (r : List ByteArray)
    (hr : Ev (fun k => palaverref12_Sorted.l0 k l (out.take (insAt out l[i]) ++ l[i] :: out.drop (insAt out l[i])) ((i + 1 : Nat) : Int)) r) :
    ∀ d j, insAt out l[i] - j = d → j ≤ insAt out l[i] → Ev (fun k => palaverref12_Sorted.l1 k l out (i : Int) (j : Int)) r := by
  have hat := insAt_le out l[i]
  have hj2 : Ev (fun k => palaverref12_Sorted.j2 k l out (i : Int) ((insAt out l[i] : Nat) : Int)) r := by
    refine Ev.step (f := fun k => palaverref12_Sorted.l2 k l (out ++ [⟨#[]⟩]) (i : Int) ((insAt out l[i] : Nat) : Int) ((out.length : Nat) : Int)) (fun k => ?_) ?_
    · simp only [palaverref12_Sorted.j2]
      rw [if_pos (by omega)]
      simp only [Option.bind_some]
      congr 1
      simp only [List.length_append, List.length_cons, List.length_nil]
      unfold wrap64; omega
    · refine sorted_l2 l out hl hout i hi _ hat r hr _ out.length _ rfl hat (Nat.le_refl _) ⟨by simp, fun j hj => by rw [List.getElem?_append_left hj], fun j hj => ?_⟩
      rw [List.getElem?_eq_none (by simp; omega), List.getElem?_eq_none (by omega)]
  intro d
  induction d with
  | zero =>
    intro j hd hj
    obtain rfl : j = insAt out l[i] := by omega
    refine Ev.step (f := fun k => palaverref12_Sorted.j2 k l out (i : Int) ((insAt out l[i] : Nat) : Int)) (fun k => ?_) hj2
    simp only [palaverref12_Sorted.l1]
    by_cases hlt : insAt out l[i] < out.length
    · rw [if_pos (by omega), if_pos (by omega), if_pos (by omega), if_pos (by omega), rdOf_at hlt, rdOf_at hi, less_eq, if_neg]
      simpa using not_below_at hlt
    · rw [if_neg (by omega)]
  | succ d ih =>
    intro j hd hj
    have hjl : j < out.length := by omega
    refine Ev.step (f := fun k => palaverref12_Sorted.l1 k l out (i : Int) ((j + 1 : Nat) : Int)) (fun k => ?_) (ih (j + 1) (by omega) (by omega))
    simp only [palaverref12_Sorted.l1]
    rw [if_pos (by omega), if_pos (by omega), if_pos (by omega), if_pos (by omega), rdOf_at hjl, rdOf_at hi, less_eq, if_pos, wrapS (by omega)]
    simpa using below_at (show j < insAt out l[i] by omega) hjl

theorem sorted_ev (l : List ByteArray) (hl : l.length ≤ 1000000) : Ev (fun k => palaverref12_Sorted.f k l) (srt l) := by
  have key : ∀ d i out, i ≤ l.length → l.length - i = d → out.length ≤ i → Ev (fun k => palaverref12_Sorted.l0 k l out (i : Int)) ((l.drop i).foldl ins1 out) := by
    intro d
    induction d with
    | zero =>
      intro i out hi hd ho
      have e : i = l.length := by omega
      refine Ev.step (f := fun _ => some out) (fun k => ?_) ?_
      · simp only [palaverref12_Sorted.l0]; rw [if_neg (by omega)]
      · rw [e, List.drop_length]; exact Ev.now _
    | succ d ih =>
      intro i out hi hd ho
      have hlt : i < l.length := by omega
      have hnext := ih (i + 1) (ins1 out l[i]) (by omega) (by omega) (by have := ins1_length out l[i]; omega)
      have hfold : (l.drop i).foldl ins1 out = (l.drop (i + 1)).foldl ins1 (ins1 out l[i]) := by rw [List.drop_eq_getElem_cons hlt, List.foldl_cons]
      rw [hfold]
      have hgo : Ev (fun k => if (inB out l[i]) = true then palaverref12_Sorted.l0 k l out ((i + 1 : Nat) : Int) else palaverref12_Sorted.l1 k l out (i : Int) 0) ((l.drop (i + 1)).foldl ins1 (ins1 out l[i])) := by
        by_cases hin : inB out l[i] = true
        · have e : ins1 out l[i] = out := by simp [ins1, hin]
          rw [e] at hnext ⊢
          exact Ev.congr (fun k => by rw [if_pos hin]) hnext
        · have e : ins1 out l[i] = out.take (insAt out l[i]) ++ l[i] :: out.drop (insAt out l[i]) := by simp [ins1, hin]
          rw [e] at hnext ⊢
          exact Ev.congr (fun k => by rw [if_neg hin]; rfl) (sorted_l1 l out hl (by omega) i hlt _ hnext _ 0 rfl (Nat.zero_le _))
      refine Ev.step (f := fun k => (palaverref12_Has.f k out l[i]).bind fun t => if t = true then palaverref12_Sorted.l0 k l out ((i + 1 : Nat) : Int) else palaverref12_Sorted.l1 k l out (i : Int) 0) (fun k => ?_) (Ev.bind (has_ev out l[i] (by omega)) hgo)
      simp only [palaverref12_Sorted.l0]
      rw [if_pos (by omega), if_pos (by omega), rdOf_at hlt, wrapS (by omega)]
  exact key l.length 0 [] (Nat.zero_le _) rfl (Nat.le_refl _)

/-! ### Same -/
theorem same_ev (a b : List ByteArray) (hl : a.length ≤ 1000000) : Ev (fun k => palaverref12_Same.f k a b) (decide (a = b)) := by
  by_cases hab : a.length = b.length
  · have key : ∀ d i, i ≤ a.length → a.length - i = d → Ev (fun k => palaverref12_Same.l0 k a b (i : Int)) (decide (a.drop i = b.drop i)) := by
      intro d
      induction d with
      | zero =>
        intro i hi hd
        have e : i = a.length := by omega
        refine Ev.step (f := fun _ => some true) (fun k => ?_) ?_
        · simp only [palaverref12_Same.l0]; rw [if_neg (by omega)]
        · have : decide (a.drop i = b.drop i) = true := by rw [e, List.drop_length, hab, List.drop_length]; rfl
          rw [this]; exact Ev.now _
      | succ d ih =>
        intro i hi hd
        have hla : i < a.length := by omega
        have hlb : i < b.length := by omega
        by_cases he : a[i] = b[i]
        · refine Ev.step (f := fun k => palaverref12_Same.l0 k a b ((i + 1 : Nat) : Int)) (fun k => ?_) ?_
          · simp only [palaverref12_Same.l0]; rw [if_pos (by omega), if_pos (by omega), if_pos (by omega), rdOf_at hla, rdOf_at hlb, if_pos ((toList_iff _ _).2 he), wrapS (by omega)]
          · have : decide (a.drop i = b.drop i) = decide (a.drop (i + 1) = b.drop (i + 1)) := by
              rw [List.drop_eq_getElem_cons hla, List.drop_eq_getElem_cons hlb]
              simp only [List.cons.injEq, he, true_and]
            rw [this]; exact ih (i + 1) (by omega) (by omega)
        · refine Ev.step (f := fun _ => some false) (fun k => ?_) ?_
          · simp only [palaverref12_Same.l0]; rw [if_pos (by omega), if_pos (by omega), if_pos (by omega), rdOf_at hla, rdOf_at hlb, if_neg (fun h => he ((toList_iff _ _).1 h))]
          · have : decide (a.drop i = b.drop i) = false := by
              rw [List.drop_eq_getElem_cons hla, List.drop_eq_getElem_cons hlb]
              simp only [List.cons.injEq, he, false_and, decide_false]
            rw [this]; exact Ev.now _
    refine Ev.congr (fun k => ?_) (key a.length 0 (Nat.zero_le _) rfl)
    unfold palaverref12_Same.f
    rw [if_pos (by omega)]
    rfl
  · have : decide (a = b) = false := by simpa using fun e : a = b => hab (by rw [e])
    rw [this]
    refine Ev.congr (fun k => ?_) (Ev.now _)
    unfold palaverref12_Same.f
    rw [if_neg (by omega)]

/-! ### the contracts, in one word each -/
theorem has_calls {w : World} {A : Option Addr} {c : Nat} {l : List ByteArray} (s : ByteArray) (hr : Kd.C Kd.string w A l.length l) (hc : l.length ≤ c) (hl : l.length ≤ 1000000) :
    Calls Try.prog 20 #[.slice A l.length c, .string s] w fun e w' => e = .returned (.bool (inB l s)) ∧ Drawn0 w w' := by
  obtain ⟨k, hk⟩ := (has_ev l s hl).rounds
  exact palaverref12_Has.calls k A c l s _ w hr hc hk

theorem sorted_calls {w : World} {A : Option Addr} {c : Nat} {l : List ByteArray} (hr : Kd.C Kd.string w A l.length l) (hc : l.length ≤ c) (hl : l.length ≤ 1000000) :
    Calls Try.prog 11 #[.slice A l.length c] w fun e w' => ∃ v : Value, e = .returned v ∧ w'.ownsRow w.heap.size 9 1 v (srt l).length ((srt l).map Value.string) ∧ Below w.heap.size w w' := by
  obtain ⟨k, hk⟩ := (sorted_ev l hl).rounds
  refine (palaverref12_Sorted.calls k A c l _ w hr hc hk).mono ?_
  rintro e w' ⟨v, rfl, hR, hb⟩
  exact ⟨v, rfl, strs_of_R hR, hb⟩

theorem same_calls {w : World} {A B : Option Addr} {c d : Nat} {a b : List ByteArray} (hr : Kd.C Kd.string w A a.length a) (hc : a.length ≤ c) (hr2 : Kd.C Kd.string w B b.length b) (hd : b.length ≤ d) (hl : a.length ≤ 1000000) :
    Calls Try.prog 18 #[.slice A a.length c, .slice B b.length d] w fun e w' => e = .returned (.bool (decide (a = b))) ∧ Drawn0 w w' := by
  obtain ⟨k, hk⟩ := (same_ev a b hl).rounds
  exact palaverref12_Same.calls k A c a B d b _ w hr hc hr2 hd hk

end Go.Proofs.Ytaecjkffemmpcaa
