/- WaitPlays: the plain laws; no program in sight. What the law keeps of those who wait is a function of who waits. -/
import Derived.Test.YtaecjkffemmpcaaLv0
namespace Go.Proofs.Ytaecjkffemmpcaa
open Go.RowKit Go.Proofs.YtaecjkffemmpcaaW.PrintWords Go.Proofs.Ytaecjkffemmpcaa.PRef

def toOne (x : WItem) : OneS := ⟨x.id, x.text, srt x.miss⟩

theorem rdO_map {lw : List WItem} {i : Nat} (h : i < lw.length) : rd_T44 (lw.map toOne) (i : Int) = toOne lw[i] := by
  rw [rdO_at (by simpa using h)]
  simp

theorem findIx_neg {lw : List WItem} {s : ByteArray} : findIx lw s < 0 ↔ ∀ x ∈ lw, x.id ≠ s := by
  constructor
  · intro h x hx e
    obtain ⟨i, hi⟩ := List.getElem?_of_mem hx
    unfold findIx at h
    cases hc : lw.findIdx? (fun x => decide (x.id = s)) with
    | some j => rw [hc] at h; simp only at h; omega
    | none =>
      rw [List.findIdx?_eq_none_iff] at hc
      have := hc x hx
      simp [e] at this
  · intro h
    rw [findIx_miss (fun j y hy => h y (List.mem_of_getElem? hy))]
    decide

theorem find_ev (lw : List WItem) (id : ByteArray) (hl : lw.length ≤ 1000000) : Ev (fun k => palaverlaw13_find.f k (lw.map toOne) id) (findIx lw id) := by
  have key : ∀ d i, i ≤ lw.length → lw.length - i = d → (∀ (j : Nat) (y : WItem), j < i → lw[j]? = some y → y.id ≠ id) → Ev (fun k => palaverlaw13_find.l0 k (lw.map toOne) id (i : Int)) (findIx lw id) := by
    intro d
    induction d with
    | zero =>
      intro i hi hd hno
      rw [findIx_miss (fun j y hy => hno j y (by have := (List.getElem?_eq_some_iff.1 hy).1; omega) hy)]
      refine Ev.step (f := fun _ => some (-1)) (fun k => ?_) (Ev.now _)
      simp only [palaverlaw13_find.l0]; rw [if_neg (by simp; omega)]
    | succ d ih =>
      intro i hi hd hno
      have hlt : i < lw.length := by omega
      by_cases he : lw[i].id = id
      · rw [findIx_hit (List.getElem?_eq_getElem hlt) he hno]
        refine Ev.step (f := fun _ => some (i : Int)) (fun k => ?_) (Ev.now _)
        simp only [palaverlaw13_find.l0]
        rw [if_pos (by simp; omega), if_pos (by omega), rdO_map hlt, if_pos (show (toOne lw[i]).f0.toList = id.toList from (toList_iff _ _).2 he)]
      · refine Ev.step (f := fun k => palaverlaw13_find.l0 k (lw.map toOne) id ((i + 1 : Nat) : Int)) (fun k => ?_) (ih (i + 1) (by omega) (by omega) fun j y hj hy => ?_)
        · simp only [palaverlaw13_find.l0]
          rw [if_pos (by simp; omega), if_pos (by omega), rdO_map hlt, if_neg (show ¬ (toOne lw[i]).f0.toList = id.toList from fun h => he ((toList_iff _ _).1 h)), wrapS (by omega)]
        · rcases Nat.lt_or_eq_of_le (Nat.le_of_lt_succ hj) with h | h
          · exact hno j y h hy
          · subst h
            rw [List.getElem?_eq_getElem hlt] at hy
            cases hy
            exact he
  exact key lw.length 0 (Nat.zero_le _) rfl (fun j y h => by omega)

theorem find_calls {w : World} {A : Option Addr} {c : Nat} {lw : List WItem} (id : ByteArray) (hr : Kd.C k44 w A lw.length (lw.map toOne)) (hc : lw.length ≤ c) (hl : lw.length ≤ 1000000) :
    Calls Try.prog 15 #[.slice A lw.length c, .string id] w fun e w' => e = .returned (.int .i64 (findIx lw id)) ∧ Drawn0 w w' := by
  obtain ⟨k, hk⟩ := (find_ev lw id hl).rounds
  have := palaverlaw13_find.calls k A c (lw.map toOne) id _ w (by rw [List.length_map]; exact hr) (by rw [List.length_map]; exact hc) hk
  rw [List.length_map] at this
  exact this

/-! ### missing -/
def absent (lw : List WItem) (s : ByteArray) : Bool := decide (findIx lw s < 0)
def lackL (lw : List WItem) (k : Nat) : List ByteArray := (lw.take k).flatMap fun x => (srt x.miss).filter (absent lw)

theorem lackL_succ {lw : List WItem} {k : Nat} (h : k < lw.length) : lackL lw (k + 1) = lackL lw k ++ (srt lw[k].miss).filter (absent lw) := by
  rw [lackL, List.take_succ_eq_append_getElem h, List.flatMap_append]
  simp [lackL]

theorem lackL_length {lw : List WItem} (hs : ∀ x ∈ lw, x.miss.length ≤ 1000) : ∀ {k : Nat}, k ≤ lw.length → (lackL lw k).length ≤ k * 1000
  | 0, _ => by simp [lackL]
  | k + 1, h => by
    rw [lackL_succ (by omega), List.length_append]
    have := lackL_length (lw := lw) hs (k := k) (by omega)
    have h1 := hs lw[k] (List.getElem_mem (by omega))
    have h2 := srt_length lw[k].miss
    have h3 := List.length_filter_le (absent lw) (srt lw[k].miss)
    omega

theorem missing_ev1 (lw : List WItem) (hl : lw.length ≤ 1000) (i : Nat) (hi : i < lw.length) (hm : lw[i].miss.length ≤ 1000) (base : List ByteArray) (hb : base.length ≤ i * 1000) (r : List ByteArray)
    (hr : Ev (fun k => palaverlaw13_missing.l0 k (lw.map toOne) (base ++ (srt lw[i].miss).filter (absent lw)) ((i + 1 : Nat) : Int)) r) :
    ∀ d j, j ≤ (srt lw[i].miss).length → (srt lw[i].miss).length - j = d → Ev (fun k => palaverlaw13_missing.l1 k (lw.map toOne) (base ++ ((srt lw[i].miss).take j).filter (absent lw)) (i : Int) (j : Int)) r := by
  have hsl := srt_length lw[i].miss
  intro d
  induction d with
  | zero =>
    intro j hj hd
    obtain rfl : j = (srt lw[i].miss).length := by omega
    refine Ev.step (f := fun k => palaverlaw13_missing.l0 k (lw.map toOne) (base ++ (srt lw[i].miss).filter (absent lw)) ((i + 1 : Nat) : Int)) (fun k => ?_) hr
    simp only [palaverlaw13_missing.l1]
    rw [if_pos (by omega), if_pos (by simp; omega), rdO_map hi, if_neg (by simp only [toOne]; omega), wrapS (by omega), List.take_length]
  | succ d ih =>
    intro j hj hd
    have hlt : j < (srt lw[i].miss).length := by omega
    have hn := ih (j + 1) (by omega) (by omega)
    rw [List.take_succ_eq_append_getElem hlt, List.filter_append] at hn
    have hlen : (base ++ ((srt lw[i].miss).take j).filter (absent lw)).length ≤ 2000000 := by
      have := List.length_filter_le (absent lw) ((srt lw[i].miss).take j)
      rw [List.length_append]
      rw [List.length_take] at this
      omega
    have hgo : Ev (fun k => if findIx lw (srt lw[i].miss)[j] < 0 then palaverlaw13_missing.l1 k (lw.map toOne) ((base ++ ((srt lw[i].miss).take j).filter (absent lw)) ++ [(srt lw[i].miss)[j]]) (i : Int) ((j + 1 : Nat) : Int) else palaverlaw13_missing.l1 k (lw.map toOne) (base ++ ((srt lw[i].miss).take j).filter (absent lw)) (i : Int) ((j + 1 : Nat) : Int)) r := by
      by_cases hf : findIx lw (srt lw[i].miss)[j] < 0
      · have e : ([(srt lw[i].miss)[j]] : List ByteArray).filter (absent lw) = [(srt lw[i].miss)[j]] := by simp [absent, hf]
        rw [e, ← List.append_assoc] at hn
        exact Ev.congr (fun k => by rw [if_pos hf]) hn
      · have e : ([(srt lw[i].miss)[j]] : List ByteArray).filter (absent lw) = [] := by simp [absent, hf]
        rw [e, List.append_nil] at hn
        exact Ev.congr (fun k => by rw [if_neg hf]) hn
    refine Ev.step (f := fun k => (palaverlaw13_find.f k (lw.map toOne) (srt lw[i].miss)[j]).bind fun t => if t < 0 then palaverlaw13_missing.l1 k (lw.map toOne) ((base ++ ((srt lw[i].miss).take j).filter (absent lw)) ++ [(srt lw[i].miss)[j]]) (i : Int) ((j + 1 : Nat) : Int) else palaverlaw13_missing.l1 k (lw.map toOne) (base ++ ((srt lw[i].miss).take j).filter (absent lw)) (i : Int) ((j + 1 : Nat) : Int)) (fun k => ?_) (Ev.bind (find_ev lw _ (by omega)) hgo)
    simp only [palaverlaw13_missing.l1]
    rw [if_pos (by omega), if_pos (by simp; omega), rdO_map hi, if_pos (by simp only [toOne]; omega), if_pos (by omega)]
    have e1 : rdOf ByteArray.empty (toOne lw[i]).f2 (j : Int) = (srt lw[i].miss)[j] := rdOf_at hlt
    rw [e1, wrapS (by omega)]
    congr 1
    funext t
    split
    · rw [if_pos (by omega)]
    · rfl

theorem missing_ev (lw : List WItem) (hl : lw.length ≤ 1000) (hm : ∀ x ∈ lw, x.miss.length ≤ 1000) : Ev (fun k => palaverlaw13_missing.f k (lw.map toOne)) (srt (lackL lw lw.length)) := by
  have key : ∀ d i, i ≤ lw.length → lw.length - i = d → Ev (fun k => palaverlaw13_missing.l0 k (lw.map toOne) (lackL lw i) (i : Int)) (srt (lackL lw lw.length)) := by
    intro d
    induction d with
    | zero =>
      intro i hi hd
      obtain rfl : i = lw.length := by omega
      have hlen := lackL_length hm (Nat.le_refl lw.length)
      refine Ev.step (f := fun k => (palaverref12_Sorted.f k (lackL lw lw.length)).bind fun t => some t) (fun k => ?_) (Ev.bind (sorted_ev _ (by omega)) (Ev.now _))
      simp only [palaverlaw13_missing.l0]
      rw [if_neg (by simp)]
    | succ d ih =>
      intro i hi hd
      have hlt : i < lw.length := by omega
      have hn := ih (i + 1) (by omega) (by omega)
      rw [lackL_succ hlt] at hn
      have h1 := missing_ev1 lw hl i hlt (hm _ (List.getElem_mem hlt)) (lackL lw i) (lackL_length hm hi) _ hn _ 0 (Nat.zero_le _) rfl
      simp only [List.take_zero, List.filter_nil, List.append_nil] at h1
      refine Ev.step (f := fun k => palaverlaw13_missing.l1 k (lw.map toOne) (lackL lw i) (i : Int) 0) (fun k => ?_) h1
      simp only [palaverlaw13_missing.l0]
      rw [if_pos (by simp; omega)]
  exact key lw.length 0 (Nat.zero_le _) rfl

theorem missing_calls {w : World} {A : Option Addr} {c : Nat} {lw : List WItem} (hr : Kd.C k44 w A lw.length (lw.map toOne)) (hc : lw.length ≤ c) (hl : lw.length ≤ 1000) (hm : ∀ x ∈ lw, x.miss.length ≤ 1000) :
    Calls Try.prog 19 #[.slice A lw.length c] w fun e w' => ∃ v : Value, e = .returned v ∧ w'.ownsRow w.heap.size 9 1 v (srt (lackL lw lw.length)).length ((srt (lackL lw lw.length)).map Value.string) ∧ Below w.heap.size w w' := by
  obtain ⟨k, hk⟩ := (missing_ev lw hl hm).rounds
  have := palaverlaw13_missing.calls k A c (lw.map toOne) _ w (by rw [List.length_map]; exact hr) (by rw [List.length_map]; exact hc) hk
  rw [List.length_map] at this
  refine this.mono ?_
  rintro e w' ⟨v, rfl, hR, hb⟩
  exact ⟨v, rfl, strs_of_R hR, hb⟩

/-- What the room says is missing is what the law says is missing. -/
theorem missing_same {lw : List WItem} {r : List ByteArray} (hr : Rising r) (hn : r.Nodup) (hm : ∀ s, s ∈ r ↔ Lacks lw s) : r = srt (lackL lw lw.length) := by
  refine srising_eq (hr.strict hn) (srt_rising _) fun s => ?_
  rw [hm, srt_mem, lackL, List.take_length, List.mem_flatMap]
  unfold Lacks absent
  constructor
  · rintro ⟨⟨x, hx, hs⟩, hno⟩
    exact ⟨x, hx, List.mem_filter.2 ⟨(srt_mem _ _).2 hs, by simpa using findIx_neg.2 hno⟩⟩
  · rintro ⟨x, hx, hs⟩
    obtain ⟨h1, h2⟩ := List.mem_filter.1 hs
    exact ⟨⟨x, hx, (srt_mem _ _).1 h1⟩, findIx_neg.1 (by simpa using h2)⟩

/-! ### the rounds -/
theorem strip_srt (s : ByteArray) (m : List ByteArray) : strip s (srt m) = srt (strip s m) :=
  srising_eq ((srt_rising m).filter _) (srt_rising _) fun t => by rw [strip_mem, srt_mem, srt_mem, strip_mem]

theorem srt_addAll (m : List ByteArray) : srt (addAll m) = srt m :=
  srising_eq (srt_rising _) (srt_rising _) fun t => by rw [srt_mem, srt_mem, addAll_mem]

theorem strip_srt_empty (s : ByteArray) (m : List ByteArray) : (strip s (srt m)).isEmpty = (strip s m).isEmpty := by
  rw [strip_srt, Bool.eq_iff_iff, List.isEmpty_iff, List.isEmpty_iff]
  constructor
  · intro h
    refine List.eq_nil_iff_forall_not_mem.2 fun t ht => ?_
    have := (srt_mem (strip s m) t).2 ht
    rw [h] at this
    cases this
  · intro h
    rw [h]
    rfl

theorem filterMap_split {α β : Type} (f : α → Option β) {l : List α} {k : Nat} (h : k < l.length) : l.filterMap f = (l.take k).filterMap f ++ ((f l[k]).toList ++ (l.drop (k + 1)).filterMap f) := by
  have e := congrArg (List.filterMap f) (List.take_append_drop k l)
  rw [List.filterMap_append, List.drop_eq_getElem_cons h] at e
  rw [← e]
  congr 1
  cases hf : f l[k] with
  | none => rw [List.filterMap_cons_none hf]; rfl
  | some y => rw [List.filterMap_cons_some hf]; rfl

theorem goes_at {s : ByteArray} {l : List WItem} {k : Nat} (h : k < l.length) {y : ByteArray × ByteArray} (hg : goes s l[k] = some y) :
    ((l.take k).filterMap (goes s)).length < (l.filterMap (goes s)).length ∧ (l.filterMap (goes s))[((l.take k).filterMap (goes s)).length]? = some y := by
  rw [filterMap_split (goes s) h, hg]
  refine ⟨by simp only [List.length_append, Option.toList_some, List.length_cons]; omega, ?_⟩
  rw [List.getElem?_append_right (Nat.le_refl _), Nat.sub_self]
  rfl

theorem cell2_at : ∀ {l : List (ByteArray × ByteArray)} {k : Nat} {y : ByteArray × ByteArray}, l[k]? = some y → (l.flatMap cell2)[k * 2]? = some (.string y.1) ∧ (l.flatMap cell2)[k * 2 + 1]? = some (.string y.2)
  | [], k, y, h => by simp at h
  | x :: l, 0, y, h => by
    simp only [List.getElem?_cons_zero, Option.some.injEq] at h
    subst h
    exact ⟨rfl, rfl⟩
  | x :: l, k + 1, y, h => by
    simp only [List.getElem?_cons_succ] at h
    obtain ⟨h1, h2⟩ := cell2_at h
    rw [List.flatMap_cons]
    refine ⟨?_, ?_⟩
    · rw [show (k + 1) * 2 = k * 2 + 1 + 1 by omega]; simpa [cell2] using h1
    · rw [show (k + 1) * 2 + 1 = k * 2 + 1 + 1 + 1 by omega]; simpa [cell2] using h2

theorem GoodLen_stay {lw : List WItem} (s : ByteArray) (h : ∀ x ∈ lw, x.miss.length ≤ 60 ∧ ∀ t ∈ x.miss, t.size ≤ maxLen) : ∀ x ∈ lw.filterMap (stay s), x.miss.length ≤ 60 ∧ ∀ t ∈ x.miss, t.size ≤ maxLen := by
  intro x hx
  obtain ⟨y, hy, e⟩ := List.mem_filterMap.1 hx
  unfold stay at e
  split at e
  · cases e
  · cases e
    have h1 := h y hy
    refine ⟨?_, fun t ht => h1.2 t ((strip_mem _ _ _).1 ht).1⟩
    have := List.length_filter_le (fun t => decide (t ≠ s)) y.miss
    exact Nat.le_trans this h1.1

end Go.Proofs.Ytaecjkffemmpcaa
