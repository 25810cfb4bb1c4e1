/- DagTurned: entries, the references, the turned dag in plain, the walk of the law, the row. -/
import Derived.Test.YtplgelmfhacjkaaZD
import Derived.Deep.RegionHeld3
import Derived.Deep.CutBlock
import Derived.Deep.DeepCutAuto

namespace Go.Proofs.Ytplgelmfhacjkaa
open Go.ChangeShapes Go.WideShapes Go.ChangeAt Go.RowKit Go.Proofs.YtplgelmfhacjkaaW.PrintWords Go.Proofs.Ytplgelmfhacjkaa.PRef

abbrev EntS := S38
def small12 (l : List EntS) : Prop := l.length ≤ 60 ∧ ∀ x ∈ l, x.f1.length ≤ 60

theorem rdE_at {xs : List EntS} {i : Nat} (h : i < xs.length) : rd_T38 xs (i : Int) = xs[i] := by
  unfold rd_T38
  rw [show ((i : Int)).toNat = i by omega, List.getD_eq_getElem?_getD, List.getElem?_eq_getElem h]; rfl

theorem great12_ev (l : List EntS) : ∃ k r, palaverlaw12_great.f k l = some r ∧ (r = false → small12 l) := by
  by_cases hl : l.length ≤ 60
  · have key : ∀ d i, i ≤ l.length → l.length - i = d → (∀ j (hj : j < l.length), j < i → l[j].f1.length ≤ 60) → ∃ r, Ev (fun k => palaverlaw12_great.l0 k l (i : Int)) r ∧ (r = false → small12 l) := by
      intro d
      induction d with
      | zero =>
        intro i hi hd hb
        refine ⟨false, Ev.step (f := fun _ => some false) (fun k => ?_) (Ev.now _), fun _ => ⟨hl, fun x hx => ?_⟩⟩
        · simp only [palaverlaw12_great.l0]; rw [if_neg (by omega)]
        · obtain ⟨j, hj, rfl⟩ := List.getElem_of_mem hx
          exact hb j hj (by omega)
      | succ d ih =>
        intro i hi hd hb
        have hlt : i < l.length := by omega
        by_cases he : l[i].f1.length ≤ 60
        · obtain ⟨r, h1, h2⟩ := ih (i + 1) (by omega) (by omega) (fun j hj hji => by
            by_cases e : j = i
            · subst e; exact he
            · exact hb j hj (by omega))
          refine ⟨r, Ev.step (fun k => ?_) h1, h2⟩
          simp only [palaverlaw12_great.l0]; rw [if_pos (by omega), if_pos (by omega), rdE_at hlt, if_neg (by omega), wrapS (by omega)]
        · refine ⟨true, Ev.step (f := fun _ => some true) (fun k => ?_) (Ev.now _), fun h => by cases h⟩
          simp only [palaverlaw12_great.l0]; rw [if_pos (by omega), if_pos (by omega), rdE_at hlt, if_pos (by omega)]
    obtain ⟨r, h1, h2⟩ := key l.length 0 (Nat.zero_le _) rfl (fun j _ h => by omega)
    obtain ⟨k, hk⟩ := h1.rounds
    refine ⟨k, r, ?_, h2⟩
    unfold palaverlaw12_great.f
    rw [if_neg (by omega)]
    exact hk
  · refine ⟨0, true, ?_, fun h => by cases h⟩
    unfold palaverlaw12_great.f
    rw [if_pos (by omega)]

theorem great12_calls {w : World} {A : Option Addr} {c : Nat} {l : List EntS} (hr : Kd.C k38 w A l.length l) (hc : l.length ≤ c) :
    ∃ r : Bool, (r = false → small12 l) ∧ Calls Try.prog 17 #[.slice A l.length c] w fun e w' => e = .returned (.bool r) ∧ Drawn0 w w' := by
  obtain ⟨k, r, h1, h2⟩ := great12_ev l
  exact ⟨r, h2, palaverlaw12_great.calls k A c l r w hr hc h1⟩


/-- What an entry reads as. -/
theorem ent_opens {H : Type} (enc : TypeId × Value → H) (w : World) (spare : Nat → Bool) (held : Bool) :
    Opens enc Try.prog w spare held 38 k38 (fun x => x.f0.size ≤ maxLen ∧ x.f1.length ≤ maxLen ∧ ∀ s ∈ x.f1, s.size ≤ maxLen) :=
  Opens.iso (fun x : EntS => (x.f0, x.f1)) (fun y => ⟨y.1, y.2⟩) (fun _ => rfl)
    (Opens.struct2 Try.underlying38 ⟨rfl, by kernel_rfl, rfl, by kernel_rfl, by kernel_rfl⟩
      (Opens.str Try.underlying9) (Opens.slice Try.underlying25 (by kernel_rfl) (Opens.str Try.underlying9)))

theorem ent_at {w : World} {A : Option Addr} {n : Nat} {l : List EntS} (h : Kd.C k38 w A n l) {i : Nat} (hi : i < l.length) : ∃ ad Ap cp, A = some ad ∧
    w.cell? (ad.add (i * 2)) = some (.string l[i].f0) ∧ w.cell? ⟨(ad.add (i * 2)).block, (ad.add (i * 2)).off + 1, none⟩ = some (.slice Ap l[i].f1.length cp) ∧ l[i].f1.length ≤ cp ∧ Kd.C Kd.string w Ap l[i].f1.length l[i].f1 := by
  have hn := h.1
  have hat := at_T38 h (i : Int) (by omega) (by omega)
  rw [rdE_at hi] at hat
  simp only [Int.toNat_natCast] at hat
  exact hat

end Go.Proofs.Ytplgelmfhacjkaa

namespace Go.Proofs.Ytplgelmfhacjkaa
open Go.RowKit Go.Proofs.YtplgelmfhacjkaaW.PrintWords Go.Proofs.Ytplgelmfhacjkaa.PRef

def toG (l : List EntS) : List Ent := l.map fun x => (x.f0, x.f1)
theorem toG_len (l : List EntS) : (toG l).length = l.length := by simp [toG]
theorem toG_ids (l : List EntS) : idsG (toG l) = l.map (·.f0) := by simp [idsG, toG]
theorem toG_at {l : List EntS} {i : Nat} (h : i < l.length) : (toG l)[i]? = some (l[i].f0, l[i].f1) := by simp [toG, h]

theorem find_ev (l : List EntS) (id : ByteArray) (hl : l.length ≤ 1000000) (hn : (idsG (toG l)).Nodup) :
    ∃ r : Int, Ev (fun k => palaverref12_Find.f k l id) r ∧ ((r = -1 ∧ hasG (toG l) id = false) ∨ ∃ (i : Nat) (h : i < l.length), r = i ∧ l[i].f0 = id ∧ hasG (toG l) id = true ∧ parG (toG l) id = l[i].f1) := by
  have key : ∀ d i, i ≤ l.length → l.length - i = d → (∀ j (hj : j < l.length), j < i → l[j].f0 ≠ id) →
      ∃ r : Int, Ev (fun k => palaverref12_Find.l0 k l id (i : Int)) r ∧ ((r = -1 ∧ hasG (toG l) id = false) ∨ ∃ (i : Nat) (h : i < l.length), r = i ∧ l[i].f0 = id ∧ hasG (toG l) id = true ∧ parG (toG l) id = l[i].f1) := by
    intro d
    induction d with
    | zero =>
      intro i hi hd hb
      refine ⟨-1, Ev.step (f := fun _ => some (-1)) (fun k => ?_) (Ev.now _), .inl ⟨rfl, hasG_false.2 fun hm => ?_⟩⟩
      · simp only [palaverref12_Find.l0]; rw [if_neg (by omega)]
      · rw [toG_ids] at hm
        obtain ⟨x, hx, he⟩ := List.mem_map.1 hm
        obtain ⟨j, hj, rfl⟩ := List.getElem_of_mem hx
        exact hb j hj (by omega) he
    | succ d ih =>
      intro i hi hd hb
      have hlt : i < l.length := by omega
      by_cases he : l[i].f0 = id
      · refine ⟨(i : Int), Ev.step (f := fun _ => some (i : Int)) (fun k => ?_) (Ev.now _), .inr ⟨i, hlt, rfl, he, hasG_iff.2 ?_, ?_⟩⟩
        · simp only [palaverref12_Find.l0]; rw [if_pos (by omega), if_pos (by omega), rdE_at hlt, if_pos ((toList_iff _ _).2 he)]
        · rw [toG_ids]
          exact List.mem_map.2 ⟨_, List.getElem_mem hlt, he⟩
        · have := parG_at hn (toG_at hlt)
          rw [← he]
          exact this
      · obtain ⟨r, h1, h2⟩ := ih (i + 1) (by omega) (by omega) (fun j hj hji => by
          by_cases e : j = i
          · subst e; exact he
          · exact hb j hj (by omega))
        refine ⟨r, Ev.step (fun k => ?_) h1, h2⟩
        simp only [palaverref12_Find.l0]; rw [if_pos (by omega), if_pos (by omega), rdE_at hlt, if_neg (fun h => he ((toList_iff _ _).1 h)), wrapS (by omega)]
  exact key l.length 0 (Nat.zero_le _) rfl (fun j _ h => by omega)

/-! ### Heads -/
def isHead (l : List EntS) (s : ByteArray) : Bool := l.all fun e => !inB e.f1 s

theorem heads_l1 (l : List EntS) (hl : l.length ≤ 1000000) (hp : ∀ e ∈ l, e.f1.length ≤ 1000000) (i : Nat) (hi : i < l.length) (out : List ByteArray) (ho : out.length ≤ i) (r : List ByteArray)
    (hr : Ev (fun k => palaverref12_Heads.l0 k l (if isHead l l[i].f0 = true then out ++ [l[i].f0] else out) ((i + 1 : Nat) : Int)) r) :
    ∀ d j b, j ≤ l.length → l.length - j = d → b = isHead (l.take j) l[i].f0 → Ev (fun k => palaverref12_Heads.l1 k l out (i : Int) b (j : Int)) r := by
  intro d
  induction d with
  | zero =>
    intro j b hj hd hb
    obtain rfl : j = l.length := by omega
    rw [List.take_length] at hb
    subst hb
    refine Ev.step (f := fun k => palaverref12_Heads.l0 k l (if isHead l l[i].f0 = true then out ++ [l[i].f0] else out) ((i + 1 : Nat) : Int)) (fun k => ?_) hr
    simp only [palaverref12_Heads.l1]
    rw [if_neg (by omega), wrapS (by omega)]
    by_cases hh : isHead l l[i].f0 = true
    · rw [if_pos hh, if_pos hh, if_pos (by omega), if_pos (by omega), if_pos (by omega), rdE_at hi]
    · rw [if_neg hh, if_neg hh]
  | succ d ih =>
    intro j b hj hd hb
    have hlt : j < l.length := by omega
    have hstep : isHead (l.take (j + 1)) l[i].f0 = (b && !inB l[j].f1 l[i].f0) := by
      rw [hb, List.take_succ_eq_append_getElem hlt]
      unfold isHead
      rw [List.all_append]
      simp
    cases b with
    | false =>
      refine Ev.step (f := fun k => palaverref12_Heads.l1 k l out (i : Int) false ((j + 1 : Nat) : Int)) (fun k => ?_) (ih (j + 1) false (by omega) (by omega) (by rw [hstep]; rfl))
      simp only [palaverref12_Heads.l1]
      rw [if_pos (by omega), if_neg (by simp), wrapS (by omega)]
    | true =>
      have h1 := ih (j + 1) (!inB l[j].f1 l[i].f0) (by omega) (by omega) (by rw [hstep]; rfl)
      refine Ev.step (f := fun k => (palaverref12_Has.f k l[j].f1 l[i].f0).bind fun t => palaverref12_Heads.l1 k l out (i : Int) (!t) ((j + 1 : Nat) : Int)) (fun k => ?_) (Ev.bind (has_ev l[j].f1 l[i].f0 (hp _ (List.getElem_mem hlt))) h1)
      simp only [palaverref12_Heads.l1]
      rw [if_pos (by omega), if_pos trivial, if_pos (by omega), if_pos (by omega), if_pos (by omega), rdE_at hlt, rdE_at hi, wrapS (by omega)]

def headsL (l : List EntS) (n : Nat) : List ByteArray := ((l.take n).filter fun e => isHead l e.f0).map (·.f0)

theorem headsL_succ {l : List EntS} {i : Nat} (hi : i < l.length) : headsL l (i + 1) = if isHead l l[i].f0 = true then headsL l i ++ [l[i].f0] else headsL l i := by
  unfold headsL
  rw [List.take_succ_eq_append_getElem hi, List.filter_append, List.map_append]
  by_cases h : isHead l l[i].f0 = true
  · rw [if_pos h, List.filter_cons_of_pos (by exact h)]
    rfl
  · rw [if_neg h, List.filter_cons_of_neg (by exact h)]
    simp

theorem headsL_len (l : List EntS) (n : Nat) : (headsL l n).length ≤ n := by
  unfold headsL
  rw [List.length_map]
  refine Nat.le_trans (List.length_filter_le _ _) ?_
  rw [List.length_take]
  omega

theorem headsL_is (l : List EntS) : IsHeads (toG l) (srt (headsL l l.length)) := by
  refine ⟨srt_rising _, fun x => ?_⟩
  rw [srt_mem]
  unfold headsL
  rw [List.take_length, toG_ids]
  constructor
  · intro h
    obtain ⟨e, he, rfl⟩ := List.mem_map.1 h
    obtain ⟨h1, h2⟩ := List.mem_filter.1 he
    refine ⟨List.mem_map.2 ⟨e, h1, rfl⟩, fun y hy hm => ?_⟩
    obtain ⟨z, hz, rfl⟩ := List.mem_map.1 hy
    have := List.all_eq_true.1 h2 z hz
    rw [inB_iff.2 hm] at this
    cases this
  · rintro ⟨h1, h2⟩
    obtain ⟨e, he, rfl⟩ := List.mem_map.1 h1
    refine List.mem_map.2 ⟨e, List.mem_filter.2 ⟨he, List.all_eq_true.2 fun z hz => ?_⟩, rfl⟩
    have := h2 (z.f0, z.f1) (List.mem_map.2 ⟨z, hz, rfl⟩)
    cases hb : inB z.f1 e.f0 with
    | false => rfl
    | true => exact absurd (inB_iff.1 hb) this

theorem heads_ev (l : List EntS) (hl : l.length ≤ 1000000) (hp : ∀ e ∈ l, e.f1.length ≤ 1000000) : Ev (fun k => palaverref12_Heads.f k l) (srt (headsL l l.length)) := by
  have key : ∀ d i, i ≤ l.length → l.length - i = d → Ev (fun k => palaverref12_Heads.l0 k l (headsL l i) (i : Int)) (srt (headsL l l.length)) := by
    intro d
    induction d with
    | zero =>
      intro i hi hd
      obtain rfl : i = l.length := by omega
      have hb : Ev (fun k => some (srt (headsL l l.length))) (srt (headsL l l.length)) := Ev.now _
      refine Ev.step (f := fun k => (palaverref12_Sorted.f k (headsL l l.length)).bind fun t => some t) (fun k => ?_) (Ev.bind (sorted_ev (headsL l l.length) (by have := headsL_len l l.length; omega)) hb)
      simp only [palaverref12_Heads.l0]
      rw [if_neg (by omega)]
    | succ d ih =>
      intro i hi hd
      have hlt : i < l.length := by omega
      have h1 := ih (i + 1) (by omega) (by omega)
      rw [headsL_succ hlt] at h1
      refine Ev.step (f := fun k => palaverref12_Heads.l1 k l (headsL l i) (i : Int) true 0) (fun k => ?_) (heads_l1 l hl hp i hlt _ (headsL_len l i) _ h1 l.length 0 true (Nat.zero_le _) (by omega) rfl)
      simp only [palaverref12_Heads.l0]
      rw [if_pos (by omega)]
  exact key l.length 0 (Nat.zero_le _) rfl

end Go.Proofs.Ytplgelmfhacjkaa

namespace Go.Proofs.Ytplgelmfhacjkaa
open Go.RowKit Go.Proofs.YtplgelmfhacjkaaW.PrintWords Go.Proofs.Ytplgelmfhacjkaa.PRef

theorem nil_list {x : ByteArray} : x.toList = ([] : List UInt8) ↔ x = ⟨#[]⟩ := by
  have h : (⟨#[]⟩ : ByteArray).toList = [] := by first | rfl | decide +kernel
  have e := toList_iff x ⟨#[]⟩
  rw [h] at e
  exact e

def rdyB (out : List ByteArray) (e : EntS) : Bool := !inB out e.f0 && e.f1.all (inB out)

/-- The lowest of those that may come, of the first i entries; the empty text: none. -/
def Best (l : List EntS) (out : List ByteArray) (i : Nat) (b : ByteArray) : Prop :=
  (b = ⟨#[]⟩ ∧ ∀ j (h : j < l.length), j < i → rdyB out l[j] = false) ∨
  (b ≠ ⟨#[]⟩ ∧ (∃ j, ∃ h : j < l.length, j < i ∧ rdyB out l[j] = true ∧ l[j].f0 = b) ∧ ∀ j (h : j < l.length), j < i → rdyB out l[j] = true → l[j].f0 = b ∨ ltS b l[j].f0)

def better (out : List ByteArray) (e : EntS) (b : ByteArray) : ByteArray := if rdyB out e = true ∧ (b = ⟨#[]⟩ ∨ ltS e.f0 b) then e.f0 else b

theorem Best.start (l : List EntS) (out : List ByteArray) : Best l out 0 ⟨#[]⟩ := .inl ⟨rfl, fun j _ h => by omega⟩

theorem Best.next {l : List EntS} (hid : ∀ e ∈ l, 0 < e.f0.size) {out : List ByteArray} {i : Nat} {b : ByteArray} (h : Best l out i b) (hi : i < l.length) : Best l out (i + 1) (better out l[i] b) := by
  have hne : l[i].f0 ≠ ⟨#[]⟩ := fun e => by
    have := hid _ (List.getElem_mem hi)
    rw [e] at this
    exact absurd this (by decide)
  unfold better
  by_cases hr : rdyB out l[i] = true
  · rcases h with ⟨rfl, h1⟩ | ⟨h1, ⟨m, hm, hmi, h2, h3⟩, h4⟩
    · rw [if_pos ⟨hr, .inl rfl⟩]
      refine .inr ⟨hne, ⟨i, hi, by omega, hr, rfl⟩, fun j hj hji hrj => ?_⟩
      by_cases e : j = i
      · subst e; exact .inl rfl
      · rw [h1 j hj (by omega)] at hrj
        cases hrj
    · by_cases hlt : ltS l[i].f0 b
      · rw [if_pos ⟨hr, .inr hlt⟩]
        refine .inr ⟨hne, ⟨i, hi, by omega, hr, rfl⟩, fun j hj hji hrj => ?_⟩
        by_cases e : j = i
        · subst e; exact .inl rfl
        · rcases h4 j hj (by omega) hrj with e' | e'
          · rw [e']; exact .inr hlt
          · exact .inr (ltS_trans hlt e')
      · rw [if_neg (fun hh => hh.2.elim h1 hlt)]
        refine .inr ⟨h1, ⟨m, hm, by omega, h2, h3⟩, fun j hj hji hrj => ?_⟩
        by_cases e : j = i
        · subst e
          by_cases eb : l[j].f0 = b
          · exact .inl eb
          · exact .inr (ltS_total hlt eb)
        · exact h4 j hj (by omega) hrj
  · rw [if_neg (fun hh => hr hh.1)]
    have hr' : rdyB out l[i] = false := by simpa using hr
    rcases h with ⟨rfl, h1⟩ | ⟨h1, ⟨m, hm, hmi, h2, h3⟩, h4⟩
    · refine .inl ⟨rfl, fun j hj hji => ?_⟩
      by_cases e : j = i
      · subst e; exact hr'
      · exact h1 j hj (by omega)
    · refine .inr ⟨h1, ⟨m, hm, by omega, h2, h3⟩, fun j hj hji hrj => ?_⟩
      by_cases e : j = i
      · subst e
        rw [hr'] at hrj
        cases hrj
      · exact h4 j hj (by omega) hrj

theorem order_l2 (l : List EntS) (hl : l.length ≤ 1000000) (hp : ∀ e ∈ l, e.f1.length ≤ 1000000) (out : List ByteArray) (ho : out.length ≤ 1000000) (i : Nat) (hi : i < l.length) (b : ByteArray) (r : List ByteArray)
    (hr : Ev (fun k => palaverref12_Order.l1 k l out (better out l[i] b) ((i + 1 : Nat) : Int)) r) :
    ∀ d j y, j ≤ l[i].f1.length → l[i].f1.length - j = d → y = (!inB out l[i].f0 && (l[i].f1.take j).all (inB out)) → Ev (fun k => palaverref12_Order.l2 k l out b (i : Int) y (j : Int)) r := by
  intro d
  induction d with
  | zero =>
    intro j y hj hd hy
    obtain rfl : j = l[i].f1.length := by omega
    rw [List.take_length] at hy
    have hyr : y = rdyB out l[i] := hy
    refine Ev.step (f := fun k => palaverref12_Order.l1 k l out (better out l[i] b) ((i + 1 : Nat) : Int)) (fun k => ?_) hr
    simp only [palaverref12_Order.l2]
    rw [if_pos (by omega), if_pos (by omega), rdE_at hi, if_neg (by omega), wrapS (by omega), hyr]
    unfold better
    by_cases h1 : rdyB out l[i] = true
    · rw [if_pos h1]
      by_cases h2 : b = ⟨#[]⟩
      · rw [if_pos (nil_list.2 h2), if_pos ⟨h1, .inl h2⟩]
      · rw [if_neg (fun h => h2 (nil_list.1 h)), less_eq]
        by_cases h3 : ltS l[i].f0 b
        · rw [if_pos (by simpa using h3), if_pos ⟨h1, .inr h3⟩]
        · rw [if_neg (by simpa using h3), if_neg (fun h => h.2.elim h2 h3)]
    · rw [if_neg h1, if_neg (fun h => h1 h.1)]
  | succ d ih =>
    intro j y hj hd hy
    have hlt : j < l[i].f1.length := by omega
    have hstep : (!inB out l[i].f0 && (l[i].f1.take (j + 1)).all (inB out)) = (y && inB out l[i].f1[j]) := by
      rw [hy, List.take_succ_eq_append_getElem hlt, List.all_append]
      simp [Bool.and_assoc]
    cases y with
    | false =>
      refine Ev.step (f := fun k => palaverref12_Order.l2 k l out b (i : Int) false ((j + 1 : Nat) : Int)) (fun k => ?_) (ih (j + 1) false (by omega) (by omega) (by rw [hstep]; rfl))
      simp only [palaverref12_Order.l2]
      have := hp _ (List.getElem_mem hi)
      rw [if_pos (by omega), if_pos (by omega), rdE_at hi, if_pos (by omega), if_neg (by simp), wrapS (by omega)]
    | true =>
      have h1 := ih (j + 1) (inB out l[i].f1[j]) (by omega) (by omega) (by rw [hstep]; rfl)
      refine Ev.step (f := fun k => (palaverref12_Has.f k out l[i].f1[j]).bind fun t => palaverref12_Order.l2 k l out b (i : Int) t ((j + 1 : Nat) : Int)) (fun k => ?_) (Ev.bind (has_ev out _ ho) h1)
      simp only [palaverref12_Order.l2]
      have := hp _ (List.getElem_mem hi)
      rw [if_pos (by omega), if_pos (by omega), rdE_at hi, if_pos (by omega), if_pos trivial, if_pos (by omega), rdOf_at hlt, wrapS (by omega)]

theorem order_l1 (l : List EntS) (hl : l.length ≤ 1000000) (hp : ∀ e ∈ l, e.f1.length ≤ 1000000) (hid : ∀ e ∈ l, 0 < e.f0.size) (out : List ByteArray) (ho : out.length ≤ 1000000) (b : ByteArray) (hb : Best l out l.length b) (hb0 : b ≠ ⟨#[]⟩)
    (hone : ∀ c, Best l out l.length c → c = b) (r : List ByteArray) (hr : Ev (fun k => palaverref12_Order.l0 k l (out ++ [b])) r) :
    ∀ d i c, i ≤ l.length → l.length - i = d → Best l out i c → Ev (fun k => palaverref12_Order.l1 k l out c (i : Int)) r := by
  intro d
  induction d with
  | zero =>
    intro i c hi hd hc
    obtain rfl : i = l.length := by omega
    obtain rfl := hone c hc
    refine Ev.step (f := fun k => palaverref12_Order.l0 k l (out ++ [c])) (fun k => ?_) hr
    simp only [palaverref12_Order.l1]
    rw [if_neg (by omega), if_neg (fun h => hb0 (nil_list.1 h)), if_pos (by omega)]
  | succ d ih =>
    intro i c hi hd hc
    have hlt : i < l.length := by omega
    have h1 := ih (i + 1) _ (by omega) (by omega) (hc.next hid hlt)
    have h2 := order_l2 l hl hp out ho i hlt c r h1 l[i].f1.length 0 (!inB out l[i].f0) (Nat.zero_le _) (by omega) (by simp)
    refine Ev.step (f := fun k => (palaverref12_Has.f k out l[i].f0).bind fun t => palaverref12_Order.l2 k l out c (i : Int) (!t) 0) (fun k => ?_) (Ev.bind (has_ev out _ ho) h2)
    simp only [palaverref12_Order.l1]
    rw [if_pos (by omega), if_pos (by omega), rdE_at hlt]

theorem rdyB_iff {l : List EntS} {out : List ByteArray} {x : ByteArray} : Ready (toG l) out x ↔ ∃ j, ∃ h : j < l.length, rdyB out l[j] = true ∧ l[j].f0 = x := by
  constructor
  · rintro ⟨e, he, rfl, h1, h2⟩
    obtain ⟨z, hz, rfl⟩ := List.mem_map.1 he
    obtain ⟨j, hj, rfl⟩ := List.getElem_of_mem hz
    refine ⟨j, hj, ?_, rfl⟩
    unfold rdyB
    rw [Bool.and_eq_true]
    refine ⟨?_, List.all_eq_true.2 fun p hp => inB_iff.2 (h2 p hp)⟩
    cases hb : inB out l[j].f0 with
    | false => rfl
    | true => exact absurd (inB_iff.1 hb) h1
  · rintro ⟨j, hj, h, rfl⟩
    unfold rdyB at h
    rw [Bool.and_eq_true] at h
    refine ⟨_, List.mem_map.2 ⟨_, List.getElem_mem hj, rfl⟩, rfl, fun hm => ?_, fun p hp => inB_iff.1 (List.all_eq_true.1 h.2 p hp)⟩
    rw [inB_iff.2 hm] at h
    simp at h

/-- An order so far. -/
def OrdP (G : List Ent) (O : List ByteArray) : Prop := O.length ≤ G.length ∧ ∀ (i : Nat) (x : ByteArray), O[i]? = some x → Ready G (O.take i) x ∧ ∀ y, Ready G (O.take i) y → y = x ∨ ltS x y

theorem OrdP.nodup {G : List Ent} {O : List ByteArray} (h : OrdP G O) : O.Nodup := by
  refine List.pairwise_iff_getElem.2 fun i j hi hj hij e => ?_
  obtain ⟨_, _, _, h3, _⟩ := (h.2 j O[j] (List.getElem?_eq_getElem hj)).1
  refine h3 (List.mem_of_getElem? (i := i) ?_)
  rw [List.getElem?_take_of_lt hij, List.getElem?_eq_getElem hi, e]

theorem OrdP.sub {G : List Ent} {O : List ByteArray} (h : OrdP G O) {x : ByteArray} (hx : x ∈ O) : x ∈ idsG G := by
  obtain ⟨i, hi⟩ := List.mem_iff_getElem?.1 hx
  obtain ⟨e, he, rfl, _⟩ := (h.2 i x hi).1
  exact List.mem_map.2 ⟨e, he, rfl⟩

/-- While some are left, one may come. -/
theorem ready_some {G : List Ent} (hG : GOk G) {O : List ByteArray} (hn : O.Nodup) (hlt : O.length < G.length) : ∃ x, Ready G O x := by
  have hex : ∃ (i : Nat) (e : Ent), G[i]? = some e ∧ e.1 ∉ O := by
    refine Classical.byContradiction fun hno => ?_
    have := nodup_sub hG.nodup (m := O) (fun x hx => Classical.byContradiction fun hxo => by
      obtain ⟨i, e, hi, rfl⟩ := mem_idsG hx
      exact hno ⟨i, e, hi, hxo⟩)
    simp [idsG] at this
    omega
  have hmin : ∀ n : Nat, (∃ e : Ent, G[n]? = some e ∧ e.1 ∉ O) → ∃ x, Ready G O x := by
    intro n
    induction n using Nat.strongRecOn with
    | _ n ih =>
      rintro ⟨e, hi, ho⟩
      by_cases hall : ∀ p ∈ e.2, p ∈ O
      · exact ⟨e.1, e, List.mem_of_getElem? hi, rfl, ho, hall⟩
      · have : ∃ p ∈ e.2, p ∉ O := Classical.byContradiction fun hno => hall fun p hp => Classical.byContradiction fun hpo => hno ⟨p, hp, hpo⟩
        obtain ⟨p, hp, hpo⟩ := this
        have hb := hG.back n e hi p hp
        obtain ⟨j, e', hj, rfl⟩ := mem_idsG hb
        have hjn : j < n := by
          have := (List.getElem?_eq_some_iff.1 hj).1
          rw [List.length_take] at this
          omega
        rw [List.getElem?_take_of_lt hjn] at hj
        exact ih j hjn ⟨e', hj, hpo⟩
  obtain ⟨i, h⟩ := hex
  exact hmin i h

theorem OrdP.snoc {G : List Ent} {O : List ByteArray} (h : OrdP G O) (hlt : O.length < G.length) {x : ByteArray} (h1 : Ready G O x) (h2 : ∀ y, Ready G O y → y = x ∨ ltS x y) : OrdP G (O ++ [x]) := by
  refine ⟨by simp; omega, fun i y hi => ?_⟩
  by_cases hio : i < O.length
  · rw [List.getElem?_append_left hio] at hi
    rw [List.take_append_of_le_length (by omega)]
    exact h.2 i y hi
  · have hl := (List.getElem?_eq_some_iff.1 hi).1
    simp at hl
    obtain rfl : i = O.length := by omega
    rw [List.getElem?_append_right (Nat.le_refl _)] at hi
    simp at hi
    subst hi
    rw [List.take_left]
    exact ⟨h1, h2⟩

theorem order_ev (l : List EntS) (hG : GOk (toG l)) (hp : ∀ e ∈ l, e.f1.length ≤ 1000000) : ∃ O, IsOrd (toG l) O ∧ Ev (fun k => palaverref12_Order.f k l) O := by
  have hl : l.length ≤ 300 := by rw [← toG_len]; exact hG.len
  have hid : ∀ e ∈ l, 0 < e.f0.size := fun e he => (hG.idok (e.f0, e.f1) (List.mem_map.2 ⟨e, he, rfl⟩)).1
  have key : ∀ d out, OrdP (toG l) out → l.length - out.length = d → ∃ O, IsOrd (toG l) O ∧ Ev (fun k => palaverref12_Order.l0 k l out) O := by
    intro d
    induction d with
    | zero =>
      intro out ho hd
      have h1 := ho.1
      rw [toG_len] at h1
      refine ⟨out, ⟨by rw [toG_len]; omega, ho.2⟩, Ev.step (f := fun _ => some out) (fun k => ?_) (Ev.now _)⟩
      simp only [palaverref12_Order.l0]
      rw [if_neg (by omega)]
    | succ d ih =>
      intro out ho hd
      have h1 := ho.1
      rw [toG_len] at h1
      obtain ⟨x0, hx0⟩ := ready_some hG ho.nodup (by rw [toG_len]; omega)
      obtain ⟨j0, hj0, hr0, _⟩ := rdyB_iff.1 hx0
      have hbest : ∀ i, i ≤ l.length → ∃ b, Best l out i b := by
        intro i
        induction i with
        | zero => exact fun _ => ⟨_, Best.start l out⟩
        | succ i ihb =>
          intro hi
          obtain ⟨b, hb⟩ := ihb (by omega)
          exact ⟨_, hb.next hid (by omega)⟩
      obtain ⟨b, hb⟩ := hbest l.length (Nat.le_refl _)
      have hnot : ∀ c, Best l out l.length c → c ≠ ⟨#[]⟩ ∧ Ready (toG l) out c ∧ ∀ y, Ready (toG l) out y → y = c ∨ ltS c y := by
        rintro c (⟨_, hc⟩ | ⟨hc0, ⟨j, hj, _, hr, hje⟩, hm⟩)
        · rw [hc j0 hj0 hj0] at hr0
          cases hr0
        · refine ⟨hc0, rdyB_iff.2 ⟨j, hj, hr, hje⟩, fun y hy => ?_⟩
          obtain ⟨i, hi, hri, rfl⟩ := rdyB_iff.1 hy
          exact hm i hi hi hri
      obtain ⟨hb0, hb1, hb2⟩ := hnot b hb
      have hone : ∀ c, Best l out l.length c → c = b := fun c hc => by
        obtain ⟨_, c1, c2⟩ := hnot c hc
        rcases hb2 c c1 with e | e
        · exact e
        · rcases c2 b hb1 with e' | e'
          · exact e'.symm
          · exact absurd (ltS_trans e e') (ltS_irrefl _)
      obtain ⟨O, hO, hev⟩ := ih (out ++ [b]) (ho.snoc (by rw [toG_len]; omega) hb1 hb2) (by simp; omega)
      refine ⟨O, hO, Ev.step (f := fun k => palaverref12_Order.l1 k l out ⟨#[]⟩ 0) (fun k => ?_) (order_l1 l (by omega) hp hid out (by omega) b hb hb0 hone O hev l.length 0 _ (Nat.zero_le _) (by omega) (Best.start l out))⟩
      simp only [palaverref12_Order.l0]
      rw [if_pos (by omega)]
  exact key l.length [] ⟨Nat.zero_le _, fun i x h => by simp at h⟩ (by simp)

end Go.Proofs.Ytplgelmfhacjkaa

namespace Go.Proofs.Ytplgelmfhacjkaa
open Go.RowKit Go.Proofs.YtplgelmfhacjkaaW.PrintWords Go.Proofs.Ytplgelmfhacjkaa.PRef

theorem find_calls {w : World} {A : Option Addr} {c : Nat} {l : List EntS} (hr : Kd.C k38 w A l.length l) (hc : l.length ≤ c) (hG : GOk (toG l)) (id : ByteArray) :
    ∃ r : Int, ((r = -1 ∧ hasG (toG l) id = false) ∨ ∃ (i : Nat) (h : i < l.length), r = i ∧ l[i].f0 = id ∧ hasG (toG l) id = true ∧ parG (toG l) id = l[i].f1) ∧
      Calls Try.prog 23 #[.slice A l.length c, .string id] w fun e w' => e = .returned (.int .i64 r) ∧ Below w.heap.size w w' := by
  obtain ⟨r, h1, h2⟩ := find_ev l id (by have := hG.len; rw [toG_len] at this; omega) hG.nodup
  obtain ⟨k, hk⟩ := h1.rounds
  refine ⟨r, h2, (palaverref12_Find.calls k A c l id r w hr hc hk).mono ?_⟩
  rintro e w' ⟨rfl, hd⟩
  exact ⟨rfl, hd.below⟩

theorem ent_small {l : List EntS} (hs : small12 l) : ∀ e ∈ l, e.f1.length ≤ 1000000 := fun e he => by have := hs.2 e he; omega

theorem headsR_calls {w : World} {A : Option Addr} {c : Nat} {l : List EntS} (hr : Kd.C k38 w A l.length l) (hc : l.length ≤ c) (hG : GOk (toG l)) (hp : ∀ e ∈ l, e.f1.length ≤ 1000000) :
    ∃ r, IsHeads (toG l) r ∧ Calls Try.prog 28 #[.slice A l.length c] w fun e w' => ∃ A' c', e = .returned (.slice A' r.length c') ∧ r.length ≤ c' ∧ Kd.C Kd.string w' A' r.length r ∧ Below w.heap.size w w' := by
  have hl : l.length ≤ 300 := by have := hG.len; rw [toG_len] at this; omega
  obtain ⟨k, hk⟩ := (heads_ev l (by omega) hp).rounds
  refine ⟨_, headsL_is l, (palaverref12_Heads.calls k A c l _ w hr hc hk).mono ?_⟩
  rintro e w' ⟨v, rfl, hR, hb⟩
  obtain ⟨A', c', rfl, h1, h2, _⟩ := own_read (strs_of_R hR) (by have := srt_length (headsL l l.length); have := headsL_len l l.length; omega)
  exact ⟨A', c', rfl, h1, h2, hb⟩

theorem orderR_calls {w : World} {A : Option Addr} {c : Nat} {l : List EntS} (hr : Kd.C k38 w A l.length l) (hc : l.length ≤ c) (hG : GOk (toG l)) (hp : ∀ e ∈ l, e.f1.length ≤ 1000000) :
    ∃ r, IsOrd (toG l) r ∧ Calls Try.prog 29 #[.slice A l.length c] w fun e w' => ∃ A' c', e = .returned (.slice A' r.length c') ∧ r.length ≤ c' ∧ Kd.C Kd.string w' A' r.length r ∧ Below w.heap.size w w' := by
  obtain ⟨O, hO, hev⟩ := order_ev l hG hp
  obtain ⟨k, hk⟩ := hev.rounds
  refine ⟨O, hO, (palaverref12_Order.calls k A c l _ w hr hc hk).mono ?_⟩
  rintro e w' ⟨v, rfl, hR, hb⟩
  obtain ⟨A', c', rfl, h1, h2, _⟩ := own_read (strs_of_R hR) (by have := hO.1; have := hG.len; omega)
  exact ⟨A', c', rfl, h1, h2, hb⟩

/-- The parents' row lies where it lay in the world that the entries came from. -/
theorem parentsR_calls {w0 w : World} {A : Option Addr} {c : Nat} {l : List EntS} (hr : Kd.C k38 w0 A l.length l) (hw : Below w0.heap.size w0 w) (hc : l.length ≤ c) (hG : GOk (toG l)) (id : ByteArray) :
    Calls Try.prog 26 #[.slice A l.length c, .string id] w fun e w' => ∃ Ap cp, e = .returned (.slice Ap (parG (toG l) id).length cp) ∧ (parG (toG l) id).length ≤ cp ∧ Kd.C Kd.string w0 Ap (parG (toG l) id).length (parG (toG l) id) ∧ Below w.heap.size w w' := by
  obtain ⟨r, h2, hf⟩ := find_calls (Kd.C_below hr hw) hc hG id
  have HF := Lib.hid hf
  have HR := Lib.hid hr
  have HW := Lib.hid hw
  clear hf hr hw
  go_enter Try.func26, Try.ntmps26
  rcases h2 with ⟨rfl, hno⟩ | ⟨i, hi, rfl, hid, hyes, hpar⟩
  · have HP := Lib.hid (parG_none (hasG_false.1 hno))
    clear hno
    go_wp2_with (go_at_call 23; refine HF.out.mono ?_; rintro e w1 ⟨rfl, hb1⟩; have HB1 := Lib.hid hb1; clear hb1)
    go_ret
    rw [HP.out]
    exact ⟨none, 0, rfl, Nat.le_refl _, nil_strs _, HB1.out⟩
  · have HP := Lib.hid hpar
    clear hpar hid hyes
    obtain ⟨x, hx⟩ : ∃ x, x = l[i] := ⟨_, rfl⟩
    rw [← hx] at HP
    have HX := Lib.hid hx
    clear hx
    have hi1 : (i : Int) < (l.length : Int) := by omega
    have hi0 : (0 : Int) ≤ (i : Int) := by omega
    have hi2 : ¬ ((i : Int) < 0) := by omega
    go_upto_region 4 with (go_at_call 23; refine HF.out.mono ?_; rintro e w1 ⟨rfl, hb1⟩; have HB1 := Lib.hid hb1; clear hb1)
    obtain ⟨ad, Ap, cp, rfl, _, q1, hcp, hrp⟩ := ent_at HR.out hi
    have k1 := ((HW.out.trans (HB1.out.mono HW.out.size)).cell (World.block_lt_of_cell? _ _ q1)).trans q1
    rw [← HX.out] at k1 hcp hrp
    have HRP := Lib.hid hrp
    clear hrp q1
    go_wp2_with fail
    go_ret
    rw [HP.out]
    exact ⟨Ap, cp, rfl, hcp, HRP.out, HB1.out⟩

end Go.Proofs.Ytplgelmfhacjkaa

namespace Go.Proofs.Ytplgelmfhacjkaa
open Go.RowKit Go.Proofs.YtplgelmfhacjkaaW.PrintWords Go.Proofs.Ytplgelmfhacjkaa.PRef

theorem own_emptyB (w : World) (e : TypeId) (size : Nat) : (w.alloc (.cells #[] e)).ownsRow w.heap.size e size (.slice (some ⟨w.heap.size, 0, none⟩) 0 0) 0 [] :=
  ownsRow_move (own_empty w e size) fun _ _ => rfl

/-- The past so far, of which k have been followed. -/
structure RPast (G : List Ent) (id : ByteArray) (out : List ByteArray) (k : Nat) : Prop where
  nodup : out.Nodup
  anc : ∀ x ∈ out, Anc G x id
  first : ∀ x ∈ parG G id, x ∈ out
  closed : ∀ (i : Nat) (x : ByteArray), i < k → out[i]? = some x → ∀ p ∈ parG G x, p ∈ out
  le : k ≤ out.length

theorem RPast.start {G : List Ent} (hG : GOk G) (id : ByteArray) : RPast G id (parG G id) 0 :=
  ⟨srising_nodup (parG_rise hG id), fun _ h => .par h, fun _ h => h, fun i x h => by omega, Nat.zero_le _⟩

theorem RPast.len {G : List Ent} (hG : GOk G) {id : ByteArray} {out : List ByteArray} {k : Nat} (h : RPast G id out k) : out.length ≤ 300 := by
  have h1 := nodup_sub h.nodup (m := idsG G) (fun x hx => anc_id hG (h.anc x hx))
  have h2 := hG.len
  simp [idsG] at h1
  omega

theorem RPast.done {G : List Ent} {id : ByteArray} {out : List ByteArray} (h : RPast G id out out.length) : IsPast G id (srt out) := by
  refine ⟨srt_rising _, fun x => ?_⟩
  rw [srt_mem]
  refine ⟨h.anc x, fun hx => ?_⟩
  induction hx with
  | par hp => exact h.first _ hp
  | step hp _ ih =>
    obtain ⟨i, hi⟩ := List.mem_iff_getElem?.1 (ih h)
    exact h.closed i _ (List.getElem?_eq_some_iff.1 hi).1 hi _ hp

/-- The past so far, while x = out[k] is followed: i of its parents have been looked at. -/
structure RFol (G : List Ent) (id : ByteArray) (out : List ByteArray) (k : Nat) (x : ByteArray) (i : Nat) : Prop where
  base : RPast G id out k
  here : out[k]? = some x
  seen : ∀ p ∈ (parG G x).take i, p ∈ out

theorem RFol.start {G : List Ent} {id : ByteArray} {out : List ByteArray} {k : Nat} {x : ByteArray} (h : RPast G id out k) (hx : out[k]? = some x) : RFol G id out k x 0 := ⟨h, hx, by simp⟩

theorem RFol.skip {G : List Ent} {id : ByteArray} {out : List ByteArray} {k : Nat} {x : ByteArray} {i : Nat} (h : RFol G id out k x i) (hi : i < (parG G x).length) (hp : (parG G x)[i] ∈ out) : RFol G id out k x (i + 1) := by
  refine ⟨h.base, h.here, fun p hpm => ?_⟩
  rw [List.take_succ_eq_append_getElem hi] at hpm
  rcases List.mem_append.1 hpm with hpm | hpm
  · exact h.seen p hpm
  · rw [List.mem_singleton.1 hpm]
    exact hp

theorem RFol.take {G : List Ent} {id : ByteArray} {out : List ByteArray} {k : Nat} {x : ByteArray} {i : Nat} (h : RFol G id out k x i) (hi : i < (parG G x).length) (hp : (parG G x)[i] ∉ out) : RFol G id (out ++ [(parG G x)[i]]) k x (i + 1) := by
  have hk := (List.getElem?_eq_some_iff.1 h.here).1
  refine ⟨⟨?_, ?_, ?_, ?_, ?_⟩, ?_, ?_⟩
  · refine List.nodup_append.2 ⟨h.base.nodup, List.pairwise_singleton _ _, fun a ha b hb e => ?_⟩
    rw [List.mem_singleton.1 hb] at e
    exact hp (e ▸ ha)
  · intro y hy
    rcases List.mem_append.1 hy with hy | hy
    · exact h.base.anc y hy
    · rw [List.mem_singleton.1 hy]
      exact .step (List.getElem_mem hi) (h.base.anc x (List.mem_of_getElem? h.here))
  · exact fun y hy => List.mem_append_left _ (h.base.first y hy)
  · intro j y hj hy p hpm
    rw [List.getElem?_append_left (by omega)] at hy
    exact List.mem_append_left _ (h.base.closed j y hj hy p hpm)
  · simp
    omega
  · rw [List.getElem?_append_left hk]
    exact h.here
  · intro p hpm
    rw [List.take_succ_eq_append_getElem hi] at hpm
    rcases List.mem_append.1 hpm with hpm | hpm
    · exact List.mem_append_left _ (h.seen p hpm)
    · exact List.mem_append_right _ hpm

theorem RFol.done {G : List Ent} {id : ByteArray} {out : List ByteArray} {k : Nat} {x : ByteArray} (h : RFol G id out k x (parG G x).length) : RPast G id out (k + 1) := by
  have hk := (List.getElem?_eq_some_iff.1 h.here).1
  refine ⟨h.base.nodup, h.base.anc, h.base.first, fun j y hj hy p hpm => ?_, by omega⟩
  by_cases e : j = k
  · subst e
    rw [h.here] at hy
    cases hy
    refine h.seen p ?_
    rw [List.take_length]
    exact hpm
  · exact h.base.closed j y (by omega) hy p hpm

set_option maxHeartbeats 4000000 in
set_option maxRecDepth 100000 in
theorem pastR_calls {w : World} {A : Option Addr} {c : Nat} {l : List EntS} (hr : Kd.C k38 w A l.length l) (hc : l.length ≤ c) (hG : GOk (toG l)) (id : ByteArray) :
    Calls Try.prog 21 #[.slice A l.length c, .string id] w fun e w' => ∃ r A' c', IsPast (toG l) id r ∧ e = .returned (.slice A' r.length c') ∧ r.length ≤ c' ∧ Kd.C Kd.string w' A' r.length r ∧ Below w.heap.size w w' := by
  obtain ⟨i0, hii0, hz0, hz1, hz2⟩ := info_parts info_strs
  have HR := Lib.hid hr
  have hpl := par_le hG id
  have HP := Lib.hid (fun (W : World) (hw : Below w.heap.size w W) (y : ByteArray) => parentsR_calls hr hw hc hG y)
  have HL := Lib.hid (fun y => par_le hG y)
  have HS := Lib.hid (RPast.start hG id)
  have HN := Lib.hid (fun (out : List ByteArray) (k : Nat) (h : RPast (toG l) id out k) => h.len hG)
  clear hr hc hG
  obtain ⟨G, hGd⟩ : ∃ G, G = toG l := ⟨_, rfl⟩
  rw [← hGd] at hpl HP HL HS HN ⊢
  clear hGd
  obtain ⟨P0, hP0⟩ : ∃ P, P = parG G id := ⟨_, rfl⟩
  go_enter Try.func21, Try.ntmps21
  go_upto_region 2 with (go_at_call 26; refine (HP.out _ (Below.refl _ _) id).mono ?_; rintro e w1 ⟨Ap, cp, rfl, hcp, hrp, hb1⟩; have HRP := Lib.hid hrp; have HB1 := Lib.hid hb1; clear hrp hb1)
  rw [← hP0] at hpl hcp HRP HS ⊢
  have HRP1 := Lib.hid (Kd.C_below HRP.out HB1.out)
  have hz1' := HB1.out.size
  go_upto_region 3 with (at_builtin; refine wpList_append_strs _ rfl (.tmp 12) (.tmp 13) 25 rfl w.heap.size 9 i0 Try.underlying25 hii0 hz0 hz1 hz2 (.slice (some ⟨w1.heap.size, 0, none⟩) 0 0) [] P0 rfl (ownsRow_weaken (own_emptyB w1 9 1) hz1') Ap cp rfl (Kd.C_below HRP1.out ((Below.refl _ _).alloc (Nat.le_refl _) _)) (by simp; omega) (by rw [asz]; omega) ?_; intro v2 w2 hown2 hg2 hat2; rw [List.nil_append] at hown2; have HO2 := Lib.hid hown2; have HB2 := Lib.hid ((HB1.out.alloc hz1' _).grown hg2 (by rw [asz]; omega) (fun k e => by cases e; omega)); clear hown2 hg2 hat2)
  go_wp2_with fail
  go_loopw [5, 6] (fun v kv wr => ∃ (out : List ByteArray) (k : Nat), kv = .int .i64 k ∧ RPast G id out k ∧ wr.ownsRow w.heap.size 9 1 v out.length (out.map Value.string) ∧ Below w.heap.size w wr) (fun _ kv _ => 301 - (intOf kv).toNat)
  case atStart => exact ⟨P0, 0, rfl, HS.out, HO2.out, HB2.out⟩
  case round =>
    obtain ⟨out, k, rfl, hp, ho, hb⟩ := hrel
    have hol := HN.out out k hp
    have hkl := hp.le
    obtain ⟨Ao, co, rfl, hco, hro, _⟩ := own_read ho (by omega)
    have HPP := Lib.hid hp
    have HO := Lib.hid ho
    have HB := Lib.hid hb
    have HRO := Lib.hid hro
    clear hp ho hb hro
    have hwk : IntKind.i64.wrap ((k : Int) + 1) = ((k + 1 : Nat) : Int) := wrapN (by omega)
    by_cases hlt : k < out.length
    · have hlt1 : (k : Int) < (out.length : Int) := by omega
      have hlt0 : (0 : Int) ≤ (k : Int) := by omega
      obtain ⟨ad, rfl, q0⟩ := at_str HRO.out hlt
      have hx0 := List.getElem?_eq_getElem hlt
      obtain ⟨x, hx⟩ : ∃ x, x = out[k] := ⟨_, rfl⟩
      rw [← hx] at q0 hx0
      have HX := Lib.hid hx0
      have hql := HL.out x
      clear hx hx0
      go_upto_region 7 with (go_at_call 26; refine (HP.out _ HB.out x).mono ?_; rintro e w3 ⟨Aq, cq, rfl, hcq, hrq, hb3⟩; have HRQ := Lib.hid hrq; have HB3 := Lib.hid hb3; clear hrq hb3)
      have HO3 := Lib.hid (own_below HO.out HB3.out)
      have HBB3 := Lib.hid (HB.out.trans (HB3.out.mono HB.out.size))
      obtain ⟨Q, hQ⟩ : ∃ Q, Q = parG G x := ⟨_, rfl⟩
      have HFS := Lib.hid (RFol.start HPP.out HX.out)
      rw [← hQ] at hql hcq HRQ ⊢
      have HQ := Lib.hid hQ
      have hzb := HBB3.out.size
      clear hQ HO HB HRO q0 HPP HO2 HB2
      go_wp2_with fail
      go_loopw [5, 8] (fun v iv wq => ∃ (o1 : List ByteArray) (i : Nat), iv = .int .i64 i ∧ i ≤ Q.length ∧ RFol G id o1 k x i ∧ wq.ownsRow w.heap.size 9 1 v o1.length (o1.map Value.string) ∧ Below w.heap.size w wq) (fun _ iv _ => Q.length - (intOf iv).toNat)
      case atStart => exact ⟨out, 0, rfl, Nat.zero_le _, HFS.out, HO3.out, HBB3.out⟩
      case round =>
        obtain ⟨o1, i, rfl, hi, hf, ho, hb⟩ := hrel
        have hol1 := HN.out o1 k hf.base
        obtain ⟨Ao, co1, rfl, hco1, hro, _⟩ := own_read ho (by omega)
        have HFF := Lib.hid hf
        have HO := Lib.hid ho
        have HB := Lib.hid hb
        have HRO := Lib.hid hro
        have hzq := hb.size
        clear hf ho hb hro
        have hwi : IntKind.i64.wrap ((i : Int) + 1) = ((i + 1 : Nat) : Int) := wrapN (by omega)
        by_cases hlt2 : i < Q.length
        · have hi1 : (i : Int) < (Q.length : Int) := by omega
          have hi0 : (0 : Int) ≤ (i : Int) := by omega
          obtain ⟨ad2, rfl, q2⟩ := at_str (Kd.C_below HRQ.out HB.out) hlt2
          have hlx : i < (parG G x).length := by rw [← HQ.out]; exact hlt2
          have hey : Q[i] = (parG G x)[i] := by simp only [HQ.out]
          obtain ⟨y, hy⟩ : ∃ y, y = Q[i] := ⟨_, rfl⟩
          rw [← hy] at q2 hey
          have HHAS := Lib.hid (has_calls y HRO.out hco1 (by omega))
          clear hy
          by_cases hin : y ∈ o1
          · have HNX := Lib.hid (HFF.out.skip hlx (by rw [← hey]; exact hin))
            rw [show inB o1 y = true from inB_iff.2 hin] at HHAS
            clear hin hey
            go_wp2_with (go_at_call 20; refine HHAS.out.mono ?_; rintro e w4 ⟨rfl, hd4⟩; have HB4 := Lib.hid hd4.below; clear hd4)
            refine ⟨⟨o1, i + 1, rfl, by omega, HNX.out, own_below HO.out HB4.out, HB.out.trans (HB4.out.mono hzq)⟩, by simp [intOf]; omega⟩
          · have HNX := Lib.hid (HFF.out.take hlx (by rw [← hey]; exact hin))
            rw [← hey] at HNX
            rw [show inB o1 y = false from by cases hh : inB o1 y with | false => rfl | true => exact absurd (inB_iff.1 hh) hin] at HHAS
            clear hin hey
            go_upto_region 11 with (go_at_call 20; refine HHAS.out.mono ?_; rintro e w4 ⟨rfl, hd4⟩; have HB4 := Lib.hid hd4.below; clear hd4)
            have q4 := (HB4.out.cell (World.block_lt_of_cell? _ _ q2)).trans q2
            have HO4 := Lib.hid (own_below HO.out HB4.out)
            have HBB4 := Lib.hid (HB.out.trans (HB4.out.mono hzq))
            have hz4 := HBB4.out.size
            go_wp2_with (at_builtin; refine wpList_append_strs _ rfl (.tmp 40) (.tmp 45) 25 rfl w.heap.size 9 i0 Try.underlying25 hii0 hz0 hz1 hz2 (.slice Ao o1.length co1) o1 [y] rfl (HO4.out.alloc _) (some ⟨w4.heap.size, 0, none⟩) 1 rfl (one_str w4 y 9) (by simp; omega) (by rw [asz]; omega) ?_; intro v5 w5 hown5 hg5 hat5; have HO5 := Lib.hid hown5; have HB5 := Lib.hid ((HBB4.out.alloc hz4 _).grown hg5 (by rw [asz]; omega) (fun k e => own_base HO4.out k e)); clear hown5 hg5 hat5)
            refine ⟨⟨o1 ++ [y], i + 1, rfl, by omega, HNX.out, HO5.out, HB5.out⟩, by simp [intOf]; omega⟩
        · obtain rfl : i = Q.length := by omega
          have HD := Lib.hid (show RPast G id o1 (k + 1) from RFol.done (by rw [← HQ.out]; exact HFF.out))
          go_wp2_with fail
          refine ⟨⟨o1, k + 1, rfl, HD.out, HO.out, HB.out⟩, by simp [intOf]; omega⟩
    · obtain rfl : k = out.length := by omega
      have HPD := Lib.hid HPP.out.done
      have HSC := Lib.hid (sorted_calls HRO.out hco (by omega))
      go_wp2_with (go_at_call 37; refine HSC.out.mono ?_; rintro e w3 ⟨v3, rfl, ho3, hb3⟩; have HO3 := Lib.hid ho3; have HB3 := Lib.hid hb3; clear ho3 hb3)
      go_ret
      obtain ⟨A', c', rfl, h1, h2, _⟩ := own_read HO3.out (by have := srt_length out; omega)
      exact ⟨srt out, A', c', HPD.out, rfl, h1, h2, HB.out.trans (HB3.out.mono HB.out.size)⟩

end Go.Proofs.Ytplgelmfhacjkaa

namespace Go.Proofs.Ytplgelmfhacjkaa
open Go.RowKit Go.Proofs.YtplgelmfhacjkaaW.PrintWords Go.Proofs.Ytplgelmfhacjkaa.PRef

/-- Entries whose cells say what they said in the world w0. -/
def kOf (w0 : World) : Kd EntS where
  sz := 2
  E := []
  K := fun _ x cs => k38.K w0 x cs
  M := fun _ _ _ x cs => k38.K w0 x cs
  K_len := fun h => k38.K_len h
  K_one := fun h => k38.K_one h
  K_below := fun _ h => h
  K_of_M := fun h => h
  M_mono := fun _ h => h
  M_bound := fun h => h
  M_move := fun _ h => h
  M_lower := fun _ h => h

theorem info_ent : (Try.prog.info? 38).map (fun i => (i.zero, i.size, i.bytes)) = some (some (.agg #[.string ⟨#[]⟩, .slice none 0 0]), 2, 40) := by kernel_rfl

theorem addG_not {G : List Ent} {id : ByteArray} {ps : List ByteArray} (h : whyG G id ps ≠ 0) : addG G id ps = G := by
  unfold addG
  rw [if_neg h]

theorem toG_snoc (l : List EntS) (x : EntS) : toG (l ++ [x]) = toG l ++ [(x.f0, x.f1)] := by simp [toG]

set_option maxHeartbeats 4000000 in
set_option maxRecDepth 100000 in
theorem addR_calls {w : World} {A : Option Addr} {c : Nat} {l : List EntS} (hr : Kd.C k38 w A l.length l) (hc : l.length ≤ c) (hG : GOk (toG l)) (id : ByteArray) {Ap : Option Addr} {cp : Nat} {ps : List ByteArray} (hrp : Kd.C Kd.string w Ap ps.length ps) (hcp : ps.length ≤ cp) (hpl : ps.length ≤ 1000000) :
    Calls Try.prog 18 #[.slice A l.length c, .string id, .slice Ap ps.length cp] w fun e w' => ∃ (l' : List EntS) (A' : Option Addr) (c' : Nat), toG l' = addG (toG l) id ps ∧ e = .returned (.tuple #[.slice A' l'.length c', .int .i64 (whyG (toG l) id ps)]) ∧ l'.length ≤ c' ∧ Kd.C k38 w' A' l'.length l' ∧ Below w.heap.size w w' := by
  have hll : l.length ≤ 300 := by have := hG.len; rw [toG_len] at this; omega
  have HR := Lib.hid hr
  have HRP := Lib.hid hrp
  have HF := Lib.hid (fun (W : World) (hw : Below w.heap.size w W) (y : ByteArray) => find_calls (Kd.C_below hr hw) hc hG y)
  have HSO := Lib.hid (fun (W : World) (hw : Below w.heap.size w W) => sorted_calls (Kd.C_below hrp hw) hcp hpl)
  have HGL := Lib.hid (toG_len l)
  clear hr hrp
  by_cases h1 : id.size = 0 ∨ 64 < id.size
  · have HWY := Lib.hid (show whyG (toG l) id ps = 1 from by unfold whyG; rw [if_pos h1])
    have HSAME := Lib.hid (addG_not (show whyG (toG l) id ps ≠ 0 from by rw [HWY.out]; decide))
    rcases h1 with h1 | h1
    · have h1' : (id.size : Int) < 1 := by omega
      go_enter Try.func18, Try.ntmps18
      go_wp2_with fail
      go_ret2
      rw [HWY.out]
      exact ⟨l, A, c, HSAME.out.symm, rfl, hc, HR.out, Below.refl _ _⟩
    · have h1' : ¬ (id.size : Int) < 1 := by omega
      have h1'' : (64 : Int) < (id.size : Int) := by omega
      go_enter Try.func18, Try.ntmps18
      go_wp2_with fail
      go_ret2
      rw [HWY.out]
      exact ⟨l, HSAME.out.symm, A, c, rfl, hc, HR.out, Below.refl _ _⟩
  · have h1' : ¬ (id.size : Int) < 1 := by omega
    have h1'' : ¬ (64 : Int) < (id.size : Int) := by omega
    obtain ⟨r, hrc, hfc⟩ := HF.out w (Below.refl _ _) id
    have HFC := Lib.hid hfc
    clear hfc
    rcases hrc with ⟨rfl, hno⟩ | ⟨i, hi, rfl, hid, hyes, hpar⟩
    · have hi0 : ¬ (0 : Int) ≤ (-1 : Int) := by decide
      by_cases h3 : 300 ≤ l.length
      · have HWY := Lib.hid (show whyG (toG l) id ps = 3 from by unfold whyG; rw [if_neg h1, if_neg (by rw [hno]; decide), if_pos (by rw [HGL.out]; exact h3)])
        have HSAME := Lib.hid (addG_not (show whyG (toG l) id ps ≠ 0 from by rw [HWY.out]; decide))
        have h3' : (300 : Int) ≤ (l.length : Int) := by omega
        clear hno
        go_enter Try.func18, Try.ntmps18
        go_wp2_with (go_at_call 23; refine HFC.out.mono ?_; rintro e w1 ⟨rfl, hb1⟩; have HB1 := Lib.hid hb1; clear hb1)
        go_ret2
        rw [HWY.out]
        exact ⟨l, A, c, HSAME.out.symm, rfl, hc, Kd.C_below HR.out HB1.out, HB1.out⟩
      · have h3' : ¬ (300 : Int) ≤ (l.length : Int) := by omega
        have HNO := Lib.hid hno
        clear hno
        go_enter Try.func18, Try.ntmps18
        go_upto_region 8 with (first
          | (go_at_call 23; refine HFC.out.mono ?_; rintro e w1 ⟨rfl, hb1⟩; have HB1 := Lib.hid hb1; clear hb1)
          | (go_at_call 37; refine (HSO.out _ HB1.out).mono ?_; rintro e w2 ⟨v2, rfl, ho2, hb2⟩; have HO2 := Lib.hid ho2; have HB2 := Lib.hid (HB1.out.trans (hb2.mono HB1.out.size)); clear ho2 hb2))
        obtain ⟨P, hP⟩ : ∃ P, P = srt ps := ⟨_, rfl⟩
        have hpl2 : P.length ≤ 1000000 := by rw [hP]; have := srt_length ps; omega
        have HPE := Lib.hid (show ∀ x, x ∈ P ↔ x ∈ ps from fun x => by rw [hP]; exact srt_mem ps x)
        rw [← hP] at HO2
        have HP := Lib.hid hP
        clear hP
        obtain ⟨A2, c2, rfl, hc2, hr2, _⟩ := own_read HO2.out hpl2
        have HR2 := Lib.hid hr2
        have hz2 := HB2.out.size
        clear hr2 HO2
        go_wp2_with fail
        go_loopw [9] (fun iv wr => ∃ i : Nat, iv = .int .i64 i ∧ i ≤ P.length ∧ (∀ p ∈ P.take i, hasG (toG l) p = true) ∧ Below w2.heap.size w2 wr) (fun iv _ => P.length - (intOf iv).toNat)
        case atStart => exact ⟨0, rfl, Nat.zero_le _, by simp, Below.refl _ _⟩
        case round =>
          obtain ⟨i, rfl, hi, hall, hb⟩ := hrel
          have HB := Lib.hid hb
          have HALL := Lib.hid hall
          clear hb hall
          have hwi : IntKind.i64.wrap ((i : Int) + 1) = ((i + 1 : Nat) : Int) := wrapN (by omega)
          by_cases hlt : i < P.length
          · have hlt1 : (i : Int) < (P.length : Int) := by omega
            have hlt0 : (0 : Int) ≤ (i : Int) := by omega
            obtain ⟨ad, rfl, q0⟩ := at_str (Kd.C_below HR2.out HB.out) hlt
            obtain ⟨y, hy⟩ : ∃ y, y = P[i] := ⟨_, rfl⟩
            rw [← hy] at q0
            have HY := Lib.hid hy
            have HBW := Lib.hid (HB2.out.trans (HB.out.mono hz2))
            obtain ⟨r, hrc, hfy⟩ := HF.out _ HBW.out y
            have HFY := Lib.hid hfy
            clear hfy hy
            rcases hrc with ⟨rfl, hyno⟩ | ⟨m, hm, rfl, hyid, hyyes, hypar⟩
            · have hm0 : (-1 : Int) < 0 := by decide
              have HWY := Lib.hid (show whyG (toG l) id ps = 9 from by
                unfold whyG
                rw [if_neg h1, if_neg (by rw [HNO.out]; decide), if_neg (by rw [HGL.out]; exact h3), if_neg]
                intro hh
                have := List.all_eq_true.1 hh y ((HPE.out y).1 (by rw [HY.out]; exact List.getElem_mem hlt))
                rw [hyno] at this
                cases this)
              have HSAME := Lib.hid (addG_not (show whyG (toG l) id ps ≠ 0 from by rw [HWY.out]; decide))
              clear hyno
              go_wp2_with (go_at_call 23; refine HFY.out.mono ?_; rintro e w4 ⟨rfl, hb4⟩; have HB4 := Lib.hid hb4; clear hb4)
              go_ret2
              rw [HWY.out]
              have hbb := HBW.out.trans (HB4.out.mono HBW.out.size)
              exact ⟨l, A, c, HSAME.out.symm, rfl, hc, Kd.C_below HR.out hbb, hbb⟩
            · have hm0 : ¬ ((m : Int) < 0) := by omega
              have HYY := Lib.hid hyyes
              clear hyid hyyes hypar
              go_wp2_with (go_at_call 23; refine HFY.out.mono ?_; rintro e w4 ⟨rfl, hb4⟩; have HB4 := Lib.hid hb4; clear hb4)
              refine ⟨⟨i + 1, rfl, by omega, fun p hp => ?_, HB.out.trans (HB4.out.mono HB.out.size)⟩, by simp [intOf]; omega⟩
              rw [List.take_succ_eq_append_getElem hlt] at hp
              rcases List.mem_append.1 hp with hp | hp
              · exact HALL.out p hp
              · rw [List.mem_singleton.1 hp, ← HY.out]
                exact HYY.out
          · obtain rfl : i = P.length := by omega
            have HWY := Lib.hid (show whyG (toG l) id ps = 0 from by
              unfold whyG
              rw [if_neg h1, if_neg (by rw [HNO.out]; decide), if_neg (by rw [HGL.out]; exact h3), if_pos]
              refine List.all_eq_true.2 fun p hp => ?_
              have := HALL.out p
              rw [List.take_length] at this
              exact this ((HPE.out p).2 hp))
            have HNEW := Lib.hid (show addG (toG l) id ps = toG l ++ [(id, srt ps)] from by unfold addG; rw [if_pos HWY.out])
            have HR3 := Lib.hid (Kd.C_below HR.out HB2.out)
            have hzq := HB.out.size
            go_wp2_with (first
              | (at_builtin; refine Kd.R_append_rows (kOf w2) (w0 := w2) (Rr := k38.K w2) w2.heap.size rfl (.tmp 44) (.tmp 45) 33 38 _ 40 rfl Try.underlying33 info_ent (by kernel_rfl) (by show 0 < 2; decide) (by decide) (.slice (some ⟨wr.heap.size, 0, none⟩) 0 0) [] l A l.length c (fun _ => True) (fun _ => False) rfl rfl ⟨fun _ _ => trivial, [], ownsRow_weaken (own_emptyB wr 38 2) hzq, Reps.none _ _⟩ (ReadsRow.imp_ HR3.out (HB.out.alloc hzq _) (fun _ _ h => h)) (fun _ _ h => h) (fun _ h => h.elim) (fun _ _ => trivial) (HB.out.alloc hzq _) (by rw [asz]; omega) (by simp; omega) ?_; intro v5 w5 hR5 hb5 hg5 hat5; rw [List.nil_append] at hR5; have HR5 := Lib.hid hR5; have HB5 := Lib.hid hb5; have hz5 := hb5.size; obtain ⟨A5, c5, rfl⟩ := Kd.R_slice hR5; clear hR5 hb5 hg5 hat5)
              | (at_builtin; refine Kd.R_append (kOf w2) (w0 := w2) w2.heap.size rfl (.tmp 46) (.tmp 50) 33 38 _ 40 rfl Try.underlying33 info_ent (by kernel_rfl) (by show 0 < 2; decide) (by decide) (.slice A5 l.length c5) l ⟨id, P⟩ [.string id, .slice A2 P.length c2] (fun _ => True) (fun _ => False) rfl rfl (k38_mk w2 ⟨id, P⟩ hc2 HR2.out) (fun _ h => h.elim) (fun _ _ => trivial) HR5.out HB5.out hz5 (by omega) ?_; intro v6 w6 hR6 hb6 hg6 hat6; have HR6 := Lib.hid hR6; have HB6 := Lib.hid hb6; clear hR6 hb6 hg6 hat6))
            go_ret2
            rw [HWY.out]
            obtain ⟨A6, c6, rfl, hc6, hr6⟩ := Kd.R_reads HR6.out
            refine ⟨l ++ [⟨id, P⟩], A6, c6, ?_, rfl, hc6, ReadsRow.imp_ (show ReadsRow (k38.K w2) k38.sz w6 A6 (l ++ [(⟨id, P⟩ : EntS)]).length (l ++ [(⟨id, P⟩ : EntS)]) from hr6) (Below.refl _ _) (fun _ _ h => k38.K_below HB6.out h), HB2.out.trans (HB6.out.mono hz2)⟩
            rw [toG_snoc, HNEW.out, HP.out]
    · have HWY := Lib.hid (show whyG (toG l) id ps = 11 from by unfold whyG; rw [if_neg h1, if_pos hyes])
      have HSAME := Lib.hid (addG_not (show whyG (toG l) id ps ≠ 0 from by rw [HWY.out]; decide))
      have hi0 : (0 : Int) ≤ (i : Int) := by omega
      clear hid hyes hpar
      go_enter Try.func18, Try.ntmps18
      go_wp2_with (go_at_call 23; refine HFC.out.mono ?_; rintro e w1 ⟨rfl, hb1⟩; have HB1 := Lib.hid hb1; clear hb1)
      go_ret2
      rw [HWY.out]
      exact ⟨l, A, c, HSAME.out.symm, rfl, hc, Kd.C_below HR.out HB1.out, HB1.out⟩

end Go.Proofs.Ytplgelmfhacjkaa

namespace Go.Proofs.Ytplgelmfhacjkaa
open Go.RowKit Go.Proofs.YtplgelmfhacjkaaW.PrintWords Go.Proofs.Ytplgelmfhacjkaa.PRef

def accG (l : List EntS) : List Ent := l.foldl (fun G x => addG G x.f0 x.f1) []

theorem accG_step {l : List EntS} {j : Nat} (h : j < l.length) : accG (l.take (j + 1)) = addG (accG (l.take j)) l[j].f0 l[j].f1 := by
  unfold accG
  rw [List.take_succ_eq_append_getElem h, List.foldl_append]
  rfl

theorem take_mono {l : List ByteArray} {j k : Nat} (h : j ≤ k) {x : ByteArray} (hx : x ∈ l.take j) : x ∈ l.take k := by
  have : (l.take k).take j = l.take j := by rw [List.take_take, Nat.min_eq_left h]
  rw [← this] at hx
  exact List.mem_of_mem_take hx

theorem ord_past {G : List Ent} (hG : GOk G) {O : List ByteArray} (h : IsOrd G O) {k : Nat} {x y : ByteArray} (hk : O[k]? = some y) (ha : Anc G x y) : x ∈ O.take k := by
  induction ha with
  | par hp => exact ((ready_iff hG).1 (h.2 k _ hk).1).2.2 _ hp
  | step hp _ ih =>
    have hq := ih hk
    obtain ⟨j, hj⟩ := List.mem_iff_getElem?.1 hq
    have hlt : j < k := by
      have := (List.getElem?_eq_some_iff.1 hj).1
      rw [List.length_take] at this
      omega
    rw [List.getElem?_take_of_lt hlt] at hj
    have := ((ready_iff hG).1 (h.2 j _ hj).1).2.2 _ hp
    exact take_mono (by omega) this

theorem ord_not_anc {G : List Ent} (hG : GOk G) {O : List ByteArray} (h : IsOrd G O) {i k : Nat} {x y : ByteArray} (hi : O[i]? = some x) (hk : O[k]? = some y) (hki : k ≤ i) : ¬ Anc G x y := fun ha =>
  ((ready_iff hG).1 (h.2 i _ hi).1).2.1 (take_mono hki (ord_past hG h hk ha))

theorem ahead_not {w : World} {p a b : Nat} {G : List Ent} (h : DagRep w p a b G) {x y : ByteArray} (hn : ¬ Anc G x y) : Calls Try.prog 19 #[.pointer (some ⟨p, 0, none⟩), .string x, .string y] w fun e w' => e = .returned (.bool false) ∧ Below w.heap.size w w' := by
  refine (aheadD_any h x y).mono ?_
  rintro e w' ⟨r, rfl, hr, hb⟩
  cases r with
  | true => exact absurd (hr.1 rfl) hn
  | false => exact ⟨rfl, hb⟩

set_option maxHeartbeats 8000000 in
set_option maxRecDepth 100000 in
theorem dorders_walk (A : Option Addr) (c : Nat) (l : List EntS) (w : World) (hc : l.length ≤ c) (hr : Kd.C k38 w A l.length l) :
    Calls Try.prog 5 #[.slice A l.length c] w fun e w' => e = .returned (.bool true) ∧ Below w.heap.size w w' := by
  obtain ⟨rg, hsm, hgr⟩ := great12_calls hr hc
  have HG := Lib.hid hgr
  have HR := Lib.hid hr
  clear hgr hr
  go_enter Try.func5, Try.ntmps5
  cases rg with
  | true =>
    go_wp2_with (first
      | (go_at_call 17; refine HG.out.mono ?_; rintro e w1 ⟨rfl, hd⟩; have HB1 := Lib.hid hd.below; clear hd)
      | (go_at_call 16; refine (awake12 _).mono ?_; rintro e w2 ⟨rfl, hb2⟩))
    go_ret
    exact ⟨rfl, HB1.out.trans (hb2.mono HB1.out.size)⟩
  | false =>
    obtain ⟨hs1, hs2⟩ := hsm rfl
    have HSM := Lib.hid hs2
    clear hs2 hsm
    go_wp2_with (first
      | (go_at_call 17; refine HG.out.mono ?_; rintro e w0 ⟨rfl, hd⟩; have HB0 := Lib.hid hd.below; clear hd)
      | (go_at_call 16; refine (awake12 _).mono ?_; rintro e w1 ⟨rfl, hb1⟩; have HB1 := Lib.hid (HB0.out.trans (hb1.mono HB0.out.size)); clear hb1)
      | (go_at_call 10; refine (new_any _).mono ?_; rintro e w2 ⟨p, a, b, rfl, hp0, ha0, hb0, hd, hbl⟩; have hp := Nat.le_trans HB1.out.size hp0; have ha := Nat.le_trans HB1.out.size ha0; have hb := Nat.le_trans HB1.out.size hb0; have HD2 := Lib.hid hd; have HB2 := Lib.hid (HB1.out.trans (hbl.mono HB1.out.size)); clear hp0 ha0 hb0 hd hbl))
    go_loopw [4] (fun iv wr => ∃ j : Nat, iv = .int .i64 j ∧ j ≤ l.length ∧ DagRep wr p a b (accG (l.take j)) ∧ Below w.heap.size w wr) (fun iv _ => l.length - (intOf iv).toNat)
    case atStart => exact ⟨0, rfl, Nat.zero_le _, HD2.out, HB2.out⟩
    case round =>
      obtain ⟨j, rfl, hj, hd, hbl⟩ := hrel
      by_cases hlt : j < l.length
      · obtain ⟨ad, Ap, cp, rfl, k0, k1, hcp, hrp⟩ := ent_at (Kd.C_below HR.out hbl) hlt
        have hpl := HSM.out l[j] (List.getElem_mem hlt)
        have hstep := accG_step hlt
        obtain ⟨x, hx⟩ : ∃ x, x = l[j] := ⟨_, rfl⟩
        rw [← hx] at k0 k1 hcp hrp hpl hstep
        have HST := Lib.hid hstep
        have hdm := hd
        obtain ⟨_, m, k, hm⟩ := hdm
        have x0 : wr.drew.cell? (ad.add (j * 2)) = some (.string x.f0) := k0
        have x1 : wr.drew.cell? ⟨(ad.add (j * 2)).block, (ad.add (j * 2)).off + 1, none⟩ = some (.slice Ap x.f1.length cp) := k1
        have hn0 := cell_map k0 hm.ma
        have hn1 := cell_map k0 hm.mb
        have hn2 := cell_map k1 hm.ma
        have hn3 := cell_map k1 hm.mb
        have l0 := World.block_lt_of_cell? _ _ k0
        have l1 := World.block_lt_of_cell? _ _ k1
        have hdw : Below wr.heap.size wr wr.drew := (Below.refl wr.heap.size wr).drew
        have HAD := Lib.hid (addD_any (hd.below hdw) x.f0 (Kd.C_below hrp hdw) hcp (by omega))
        have HBL := Lib.hid hbl
        have hwj : IntKind.i64.wrap ((j : Int) + 1) = ((j + 1 : Nat) : Int) := wrapN (by omega)
        clear hm hd hbl hx hrp hstep hdw k0 k1
        go_upto_region 7 with fail
        go_region_held3 (fun W => W.cell? (ad.add (j * 2)) = some (.string x.f0) ∧ W.cell? ⟨(ad.add (j * 2)).block, (ad.add (j * 2)).off + 1, none⟩ = some (.slice Ap x.f1.length cp)) (refine ⟨?_, ?_⟩ <;> assumption)
          (first
            | (go_at_call 12; refine HAD.out.mono ?_; rintro e w5 ⟨rfl, hd5, hf5⟩; have y0 := (hf5.cell (p := ad.add (j * 2)) l0 (fun h => h.elim hn0 hn1)).trans x0; have y1 := (hf5.cell (p := ⟨(ad.add (j * 2)).block, (ad.add (j * 2)).off + 1, none⟩) l1 (fun h => h.elim hn2 hn3)).trans x1; have HD5 := Lib.hid hd5; have HF5 := Lib.hid (hf5.to_below (B := w.heap.size) HBL.out.size (fun k hk h => h.elim (fun e => by omega) (fun e => by omega))); clear hd5 hf5))
        go_wp2_with fail
        refine ⟨⟨j + 1, rfl, by omega, by rw [HST.out]; exact HD5.out, HBL.out.drew.trans HF5.out⟩, by simp [intOf]; omega⟩
      · obtain rfl : j = l.length := by omega
        have hG := hd.ok
        have HGO := Lib.hid hG
        have HOR := Lib.hid (orderD_any hd)
        have HBL := Lib.hid hbl
        have HD := Lib.hid hd
        clear hG hd hbl
        obtain ⟨GG, hGG⟩ : ∃ GG, GG = accG (l.take l.length) := ⟨_, rfl⟩
        rw [← hGG] at HGO HOR HD
        clear hGG
        go_upto_region 9 with (go_at_call 14; refine HOR.out.mono ?_; rintro e w5 ⟨v5, O, rfl, hio, ho, hb5⟩; have HIO := Lib.hid hio; have HO5 := Lib.hid ho; have HB5 := Lib.hid (HBL.out.trans (hb5.mono HBL.out.size)); have HD5 := Lib.hid (HD.out.below hb5); clear hio ho hb5 HOR)
        have hol := HIO.out.1
        have hg3 := HGO.out.len
        obtain ⟨A5, c5, rfl, hc5, hr5, _⟩ := own_read HO5.out (by omega)
        have HR5 := Lib.hid hr5
        clear hr5
        have HL := Lib.hid (lenD_any HD5.out)
        rw [← hol] at HL hg3
        clear hol
        go_wp2_with (go_at_call 13; refine HL.out.mono ?_; rintro e w6 ⟨rfl, hw6⟩; rw [hw6]; clear hw6)
        go_loopw [6] (fun iv wr => ∃ i : Nat, iv = .int .i64 i ∧ i ≤ O.length ∧ Below w5.heap.size w5 wr) (fun iv _ => O.length - (intOf iv).toNat)
        case atStart => exact ⟨0, rfl, Nat.zero_le _, Below.refl _ _⟩
        case round =>
          obtain ⟨i, rfl, hi, hbi⟩ := hrel
          have HBI := Lib.hid hbi
          clear hbi
          by_cases hlt : i < O.length
          · have hwi : IntKind.i64.wrap ((i : Int) + 1) = ((i + 1 : Nat) : Int) := wrapN (by omega)
            go_wp2_with fail
            go_loopw [7] (fun kv' wq => ∃ k : Nat, kv' = .int .i64 k ∧ k ≤ i + 1 ∧ Below w5.heap.size w5 wq) (fun kv' _ => i + 1 - (intOf kv').toNat)
            case atStart => exact ⟨0, rfl, Nat.zero_le _, HBI.out⟩
            case round =>
              obtain ⟨k, rfl, hk, hbk⟩ := hrel
              have hwk : IntKind.i64.wrap ((k : Int) + 1) = ((k + 1 : Nat) : Int) := wrapN (by omega)
              by_cases hkl : k ≤ i
              · have hkl' : (k : Int) ≤ (i : Int) := by omega
                obtain ⟨ad, rfl, q0⟩ := at_str (Kd.C_below HR5.out hbk) hlt
                have hkO : k < O.length := by omega
                have hkO' : (k : Int) < (O.length : Int) := by omega
                have hk0' : (0 : Int) ≤ (k : Int) := by omega
                have hiO' : (i : Int) < (O.length : Int) := by omega
                have hi0' : (0 : Int) ≤ (i : Int) := by omega
                obtain ⟨ad', e', q1⟩ := at_str (Kd.C_below HR5.out hbk) hkO
                cases e'
                have hna := ord_not_anc HGO.out HIO.out (List.getElem?_eq_getElem hlt) (List.getElem?_eq_getElem hkO) hkl
                obtain ⟨x, hx⟩ : ∃ x, x = O[i] := ⟨_, rfl⟩
                obtain ⟨y, hy⟩ : ∃ y, y = O[k] := ⟨_, rfl⟩
                rw [← hx] at q0 hna
                rw [← hy] at q1 hna
                have hbd : Below wr.heap.size wr wr.drew := (Below.refl wr.heap.size wr).drew
                have x0 : wr.drew.cell? (ad.add i) = some (.string x) := q0
                have x1 : wr.drew.cell? (ad.add k) = some (.string y) := q1
                have HAH := Lib.hid (ahead_not ((HD5.out.below hbk).below hbd) hna)
                have HBK := Lib.hid hbk
                have hzk := hbk.size
                clear hx hy hna hbk q0 q1 hbd
                go_upto_region 17 with fail
                go_region_held3 (fun W => W.cell? (ad.add i) = some (.string x) ∧ W.cell? (ad.add k) = some (.string y)) (refine ⟨?_, ?_⟩ <;> assumption)
                  (first
                    | (go_at_call 19; refine HAH.out.mono ?_; rintro e w7 ⟨rfl, hb7⟩; have y0 := (hb7.cell (p := ad.add i) (World.block_lt_of_cell? _ _ x0)).trans x0; have y1 := (hb7.cell (p := ad.add k) (World.block_lt_of_cell? _ _ x1)).trans x1; have HB7 := Lib.hid hb7; clear hb7))
                go_wp2_with fail
                exact ⟨⟨k + 1, rfl, by omega, HBK.out.drew.trans (HB7.out.mono hzk)⟩, by simp [intOf]; omega⟩
              · have hkl' : ¬ (k : Int) ≤ (i : Int) := by omega
                have HBK := Lib.hid hbk
                clear hbk
                go_wp2_with fail
                exact ⟨⟨i + 1, rfl, by omega, HBK.out⟩, by simp [intOf]; omega⟩
          · obtain rfl : i = O.length := by omega
            have hz5 := HB5.out.size
            go_wp2_with fail
            go_ret
            exact ⟨rfl, HB5.out.trans (HBI.out.mono hz5)⟩

end Go.Proofs.Ytplgelmfhacjkaa

namespace Go.Proofs.Ytplgelmfhacjkaa
open Go.RowKit Go.Proofs.YtplgelmfhacjkaaW.PrintWords Go.Proofs.Ytplgelmfhacjkaa.PRef

theorem strs_fr {S : Nat → Prop} {w w' : World} (hf : Fr S w w') (hS : ∀ k, S k → ∃ m, MapL w k m) {A : Option Addr} {n : Nat} {xs : List ByteArray} (h : Kd.C Kd.string w A n xs) : Kd.C Kd.string w' A n xs := by
  refine ⟨h.1, h.2.1, fun hn => ?_⟩
  obtain ⟨ad, e, hc⟩ := h.2.2 hn
  refine ⟨ad, e, fun j p hj => ?_⟩
  obtain ⟨c, h1, h2, h3⟩ := hc j p hj
  refine ⟨c, h1, h2, fun i u hu => ?_⟩
  have hcl := h3 i u hu
  refine (hf.cell (World.block_lt_of_cell? _ _ hcl) fun hs => ?_).trans hcl
  obtain ⟨m, hm⟩ := hS _ hs
  exact cell_map hcl hm rfl

theorem ents_fr {S : Nat → Prop} {w w' : World} (hf : Fr S w w') (hS : ∀ k, S k → ∃ m, MapL w k m) {A : Option Addr} {n : Nat} {xs : List EntS} (h : Kd.C k38 w A n xs) : Kd.C k38 w' A n xs := by
  refine ⟨h.1, h.2.1, fun hn => ?_⟩
  obtain ⟨ad, e, hc⟩ := h.2.2 hn
  refine ⟨ad, e, fun j p hj => ?_⟩
  obtain ⟨c, h1, h2, h3⟩ := hc j p hj
  refine ⟨c, h1, ?_, fun i u hu => ?_⟩
  · obtain ⟨A1, c1, rfl, l1, g1⟩ := k38_open h2
    exact k38_mk w' p l1 (strs_fr hf hS g1)
  · have hcl := h3 i u hu
    refine (hf.cell (World.block_lt_of_cell? _ _ hcl) fun hs => ?_).trans hcl
    obtain ⟨m, hm⟩ := hS _ hs
    exact cell_map hcl hm rfl

theorem ents_dag {w w' : World} {p a b : Nat} {G : List Ent} (h : DagRep w p a b G) (hf : Fr (fun k => k = a ∨ k = b) w w') {A : Option Addr} {n : Nat} {xs : List EntS} (hr : Kd.C k38 w A n xs) : Kd.C k38 w' A n xs := by
  obtain ⟨_, m, k, hm⟩ := h
  refine ents_fr hf ?_ hr
  rintro k (rfl | rfl)
  · exact ⟨_, hm.ma⟩
  · exact ⟨_, hm.mb⟩

theorem strs_dag {w w' : World} {p a b : Nat} {G : List Ent} (h : DagRep w p a b G) (hf : Fr (fun k => k = a ∨ k = b) w w') {A : Option Addr} {n : Nat} {xs : List ByteArray} (hr : Kd.C Kd.string w A n xs) : Kd.C Kd.string w' A n xs := by
  obtain ⟨_, m, k, hm⟩ := h
  refine strs_fr hf ?_ hr
  rintro k (rfl | rfl)
  · exact ⟨_, hm.ma⟩
  · exact ⟨_, hm.mb⟩

theorem cell_dag {w w' : World} {p a b : Nat} {G : List Ent} (h : DagRep w p a b G) (hf : Fr (fun k => k = a ∨ k = b) w w') {ad : Addr} {u : Value} (hc : w.cell? ad = some u) : w'.cell? ad = some u := by
  obtain ⟨_, m, k, hm⟩ := h
  refine (hf.cell (World.block_lt_of_cell? _ _ hc) fun hs => ?_).trans hc
  exact hs.elim (cell_map hc hm.ma) (cell_map hc hm.mb)

theorem nil_ents (w : World) : Kd.C k38 w none ([] : List EntS).length [] := ⟨rfl, by simp, fun h => absurd h (Nat.lt_irrefl _)⟩

theorem ent_len {l : List EntS} (hG : GOk (toG l)) : ∀ e ∈ l, e.f1.length ≤ 1000000 := fun e he => by
  obtain ⟨i, hi, rfl⟩ := List.getElem_of_mem he
  have h1 := parG_at hG.nodup (toG_at hi)
  have h2 := par_le hG l[i].f0
  rw [h1] at h2
  exact Nat.le_trans h2 (by decide)

theorem accG_ok : ∀ (l : List EntS) (G : List Ent), GOk G → GOk (l.foldl (fun G x => addG G x.f0 x.f1) G)
  | [], _, h => h
  | x :: l, _, h => accG_ok l _ (addG_ok h x.f0 x.f1)

theorem past_some {G : List Ent} (hG : GOk G) (y : ByteArray) : ∃ r, IsPast G y r := by
  classical
  refine ⟨srt ((idsG G).filter fun x => decide (Anc G x y)), srt_rising _, fun x => ?_⟩
  rw [srt_mem, List.mem_filter]
  simp only [decide_eq_true_eq]
  exact ⟨fun h => h.2, fun h => ⟨anc_id hG h, h⟩⟩

theorem past_small {G : List Ent} (hG : GOk G) {y : ByteArray} {r : List ByteArray} (h : IsPast G y r) : r.length ≤ 300 := by
  have h1 := nodup_sub (srising_nodup h.1) (m := idsG G) (fun x hx => anc_id hG ((h.2 x).1 hx))
  have h2 := hG.len
  simp [idsG] at h1
  omega

theorem pastR_row {w : World} {A : Option Addr} {c : Nat} {l : List EntS} (hr : Kd.C k38 w A l.length l) (hc : l.length ≤ c) (hG : GOk (toG l)) {id : ByteArray} {r : List ByteArray} (hp : IsPast (toG l) id r) :
    Calls Try.prog 21 #[.slice A l.length c, .string id] w fun e w' => ∃ A' c', e = .returned (.slice A' r.length c') ∧ r.length ≤ c' ∧ Kd.C Kd.string w' A' r.length r ∧ Below w.heap.size w w' := by
  refine (pastR_calls hr hc hG id).mono ?_
  rintro e w' ⟨r', A', c', h1, rfl, h2, h3, h4⟩
  obtain rfl := hp.one h1
  exact ⟨A', c', rfl, h2, h3, h4⟩

theorem ahead_row {w : World} {p a b : Nat} {G : List Ent} (h : DagRep w p a b G) {x y : ByteArray} {r : List ByteArray} (hp : IsPast G y r) : Calls Try.prog 19 #[.pointer (some ⟨p, 0, none⟩), .string x, .string y] w fun e w' => e = .returned (.bool (inB r x)) ∧ Below w.heap.size w w' := by
  refine (aheadD_any h x y).mono ?_
  rintro e w' ⟨r', rfl, hr, hb⟩
  refine ⟨?_, hb⟩
  congr 2
  rw [Bool.eq_iff_iff, hr, inB_iff, hp.2]

end Go.Proofs.Ytplgelmfhacjkaa

namespace Go.Proofs.Ytplgelmfhacjkaa
open Go.RowKit Go.Proofs.YtplgelmfhacjkaaW.PrintWords Go.Proofs.Ytplgelmfhacjkaa.PRef

theorem same_row {w : World} {A B : Option Addr} {c d : Nat} {a : List ByteArray} (hr : Kd.C Kd.string w A a.length a) (hc : a.length ≤ c) (hr2 : Kd.C Kd.string w B a.length a) (hd : a.length ≤ d) (hl : a.length ≤ 1000000) :
    Calls Try.prog 24 #[.slice A a.length c, .slice B a.length d] w fun e w' => e = .returned (.bool true) ∧ Below w.heap.size w w' := by
  refine (same_calls hr hc hr2 hd hl).mono ?_
  rintro e w' ⟨rfl, h⟩
  exact ⟨by simp, h.below⟩

/-- Find's answer, and what Has answers. -/
theorem find_has {l : List EntS} (hG : GOk (toG l)) (id : ByteArray) :
    ∃ r : Int, hasG (toG l) id = decide (0 ≤ r) ∧ ∀ (w : World) (A : Option Addr) (c : Nat), Kd.C k38 w A l.length l → l.length ≤ c → Calls Try.prog 23 #[.slice A l.length c, .string id] w fun e w' => e = .returned (.int .i64 r) ∧ Below w.heap.size w w' := by
  obtain ⟨r, h1, h2⟩ := find_ev l id (by have := hG.len; rw [toG_len] at this; omega) hG.nodup
  obtain ⟨k, hk⟩ := h1.rounds
  refine ⟨r, ?_, fun w A c hr hc => (palaverref12_Find.calls k A c l id r w hr hc hk).mono ?_⟩
  · rcases h2 with ⟨rfl, h⟩ | ⟨i, hi, rfl, _, h, _⟩
    · rw [h]
      rfl
    · rw [h]
      exact (decide_eq_true (by omega)).symm
  · rintro e w' ⟨rfl, hd⟩
    exact ⟨rfl, hd.below⟩

theorem heads_some (l : List EntS) : ∃ r, IsHeads (toG l) r := ⟨_, headsL_is l⟩
theorem order_some {l : List EntS} (hG : GOk (toG l)) : ∃ r, IsOrd (toG l) r := by
  obtain ⟨O, h, _⟩ := order_ev l hG (ent_len hG)
  exact ⟨O, h⟩
theorem heads_small {G : List Ent} (hG : GOk G) {r : List ByteArray} (h : IsHeads G r) : r.length ≤ 300 := by
  have h1 := nodup_sub (srising_nodup h.1) (m := idsG G) (fun x hx => ((h.2 x).1 hx).1)
  have h2 := hG.len
  simp [idsG] at h1
  omega
theorem order_small {G : List Ent} (hG : GOk G) {r : List ByteArray} (h : IsOrd G r) : r.length ≤ 300 := by rw [h.1]; exact hG.len

theorem headsR_row {w : World} {A : Option Addr} {c : Nat} {l : List EntS} (hr : Kd.C k38 w A l.length l) (hc : l.length ≤ c) (hG : GOk (toG l)) {r : List ByteArray} (hp : IsHeads (toG l) r) :
    Calls Try.prog 28 #[.slice A l.length c] w fun e w' => ∃ A' c', e = .returned (.slice A' r.length c') ∧ r.length ≤ c' ∧ Kd.C Kd.string w' A' r.length r ∧ Below w.heap.size w w' := by
  obtain ⟨r', h1, h2⟩ := headsR_calls hr hc hG (ent_len hG)
  obtain rfl := hp.one h1
  exact h2

theorem orderR_row {w : World} {A : Option Addr} {c : Nat} {l : List EntS} (hr : Kd.C k38 w A l.length l) (hc : l.length ≤ c) (hG : GOk (toG l)) {r : List ByteArray} (hp : IsOrd (toG l) r) :
    Calls Try.prog 29 #[.slice A l.length c] w fun e w' => ∃ A' c', e = .returned (.slice A' r.length c') ∧ r.length ≤ c' ∧ Kd.C Kd.string w' A' r.length r ∧ Below w.heap.size w w' := by
  obtain ⟨r', h1, h2⟩ := orderR_calls hr hc hG (ent_len hG)
  obtain rfl := hp.one h1
  exact h2

theorem parents_row {w : World} {p a b : Nat} {G : List Ent} (h : DagRep w p a b G) {id : ByteArray} {r : List ByteArray} (hr : r = parG G id) : Calls Try.prog 25 #[.pointer (some ⟨p, 0, none⟩), .string id] w fun e w' => ∃ A c, e = .returned (.slice A r.length c) ∧ r.length ≤ c ∧ Kd.C Kd.string w' A r.length r ∧ Below w.heap.size w w' := by
  subst hr
  have hG := par_le h.ok id
  refine (parentsD_any h id).mono ?_
  rintro e w' ⟨v, rfl, ho, hb⟩
  obtain ⟨A, c, rfl, h1, h2, _⟩ := own_read ho (by omega)
  exact ⟨A, c, rfl, h1, h2, hb⟩

theorem parentsR_row {w : World} {A : Option Addr} {c : Nat} {l : List EntS} (hr : Kd.C k38 w A l.length l) (hc : l.length ≤ c) (hG : GOk (toG l)) {id : ByteArray} {r : List ByteArray} (hp : r = parG (toG l) id) :
    Calls Try.prog 26 #[.slice A l.length c, .string id] w fun e w' => ∃ A' c', e = .returned (.slice A' r.length c') ∧ r.length ≤ c' ∧ Kd.C Kd.string w' A' r.length r ∧ Below w.heap.size w w' := by
  subst hp
  refine (parentsR_calls hr (Below.refl _ _) hc hG id).mono ?_
  rintro e w' ⟨A', c', rfl, h2, h3, h4⟩
  exact ⟨A', c', rfl, h2, Kd.C_below h3 h4, h4⟩

end Go.Proofs.Ytplgelmfhacjkaa

namespace Go.Proofs.Ytplgelmfhacjkaa
open Go.RowKit Go.Proofs.YtplgelmfhacjkaaW.PrintWords Go.Proofs.Ytplgelmfhacjkaa.PRef

theorem great12_all (l : List EntS) : ∃ r : Bool, (r = false → small12 l) ∧ ∀ (w : World) (A : Option Addr) (c : Nat), Kd.C k38 w A l.length l → l.length ≤ c →
    Calls Try.prog 17 #[.slice A l.length c] w fun e w' => e = .returned (.bool r) ∧ Below w.heap.size w w' := by
  obtain ⟨k, r, h1, h2⟩ := great12_ev l
  refine ⟨r, h2, fun w A c hr hc => (palaverlaw12_great.calls k A c l r w hr hc h1).mono ?_⟩
  rintro e w' ⟨rfl, hd⟩
  exact ⟨rfl, hd.below⟩

def addsG (G : List Ent) (l : List EntS) : List Ent := l.foldl (fun G x => addG G x.f0 x.f1) G

theorem addsG_step {G : List Ent} {l : List EntS} {j : Nat} (h : j < l.length) : addsG G (l.take (j + 1)) = addG (addsG G (l.take j)) l[j].f0 l[j].f1 := by
  unfold addsG
  rw [List.take_succ_eq_append_getElem h, List.foldl_append]
  rfl

/-- A dag beside another one that turns. -/
theorem dag_beside {w w' : World} {p a b p2 a2 b2 : Nat} {G G2 : List Ent} (h : DagRep w p a b G) (h2 : DagRep w p2 a2 b2 G2) (hf : Fr (fun k => k = a2 ∨ k = b2) w w') (h1 : a2 ≠ a) (h3 : a2 ≠ b) (h4 : b2 ≠ a) (h5 : b2 ≠ b) : DagRep w' p a b G := by
  obtain ⟨_, m, k, hm⟩ := h2
  refine h.fr hf ?_
  rintro k (rfl | rfl)
  · exact ⟨h1, h3, fun c t f hc => hm.ma.not_cells hc⟩
  · exact ⟨h4, h5, fun c t f hc => hm.mb.not_cells hc⟩

theorem DagRep.lt {w : World} {p a b : Nat} {G : List Ent} (h : DagRep w p a b G) : a < w.heap.size ∧ b < w.heap.size := by
  obtain ⟨_, m, k, hm⟩ := h
  exact ⟨hm.ma.lt, hm.mb.lt⟩

/-- A row of one's own: none, or a block of that many cells at least. -/
theorem own_cells {w : World} {B e n : Nat} {v : Value} {xs : List Value} (h : w.ownsRow B e 1 v n xs) : (v = .slice none 0 0 ∧ n = 0) ∨ ∃ g cap cur, v = .slice (some ⟨g, 0, none⟩) n cap ∧ B ≤ g ∧ w.heap[g]? = some (.cells cur e (0, 0)) ∧ n ≤ cur.size := by
  rcases h.2 with h | ⟨g, cap, cur, h1, h2, h3, h4, _, h6, _⟩
  · exact .inl h
  · exact .inr ⟨g, cap, cur, h1, h2, h3, by omega⟩

theorem cells_at {w : World} {g k e : Nat} {cur : Array Value} (h : w.heap[g]? = some (.cells cur e (0, 0))) (hk : k < cur.size) : w.cell? ⟨g, k, none⟩ = some cur[k] ∧ w.frozen? ⟨g, k, none⟩ = false := by
  refine ⟨by simp [World.cell?, h, hk], by simp [World.frozen?, h]⟩

theorem toG_from (G : List Ent) : toG (G.map fun e => (⟨e.1, e.2⟩ : EntS)) = G := by
  unfold toG
  rw [List.map_map]
  exact List.map_id _
theorem heads_exist (G : List Ent) : ∃ E, IsHeads G E := by
  have := heads_some (G.map fun e => (⟨e.1, e.2⟩ : EntS))
  rwa [toG_from] at this
theorem order_exist {G : List Ent} (hG : GOk G) : ∃ O, IsOrd G O := by
  have := order_some (l := G.map fun e => (⟨e.1, e.2⟩ : EntS)) (by rw [toG_from]; exact hG)
  rwa [toG_from] at this

end Go.Proofs.Ytplgelmfhacjkaa

namespace Go.Proofs.Ytplgelmfhacjkaa
open Go.RowKit Go.Proofs.YtplgelmfhacjkaaW.PrintWords

theorem ids_turn {G H : List Ent} (h : ∀ e, e ∈ G ↔ e ∈ H) (x : ByteArray) : x ∈ idsG G ↔ x ∈ idsG H := by
  unfold idsG
  rw [List.mem_map, List.mem_map]
  exact ⟨fun ⟨e, he, hx⟩ => ⟨e, (h e).1 he, hx⟩, fun ⟨e, he, hx⟩ => ⟨e, (h e).2 he, hx⟩⟩

theorem parG_of {G : List Ent} (hG : GOk G) {e : Ent} (he : e ∈ G) : parG G e.1 = e.2 := by
  obtain ⟨i, hi⟩ := List.mem_iff_getElem?.1 he
  exact parG_at hG.nodup hi

theorem parG_turn {G H : List Ent} (hG : GOk G) (hH : GOk H) (h : ∀ e, e ∈ G ↔ e ∈ H) (id : ByteArray) : parG G id = parG H id := by
  by_cases hid : id ∈ idsG G
  · obtain ⟨e, he, rfl⟩ := List.mem_map.1 hid
    rw [parG_of hG he, parG_of hH ((h e).1 he)]
  · rw [parG_none hid, parG_none (fun hh => hid ((ids_turn h id).2 hh))]

theorem heads_turn {G H : List Ent} (h : ∀ e, e ∈ G ↔ e ∈ H) {l : List ByteArray} (hl : IsHeads G l) : IsHeads H l :=
  ⟨hl.1, fun x => (hl.2 x).trans (and_congr (ids_turn h x) ⟨fun hh e he => hh e ((h e).2 he), fun hh e he => hh e ((h e).1 he)⟩)⟩

theorem ready_turn {G H : List Ent} (h : ∀ e, e ∈ G ↔ e ∈ H) {O : List ByteArray} {x : ByteArray} : Ready G O x ↔ Ready H O x :=
  ⟨fun ⟨e, he, r⟩ => ⟨e, (h e).1 he, r⟩, fun ⟨e, he, r⟩ => ⟨e, (h e).2 he, r⟩⟩

theorem order_turn {G H : List Ent} (hn : G.length = H.length) (h : ∀ e, e ∈ G ↔ e ∈ H) {l : List ByteArray} (hl : IsOrd G l) : IsOrd H l :=
  ⟨hl.1.trans hn, fun i x hi => ⟨(ready_turn h).1 (hl.2 i x hi).1, fun y hy => (hl.2 i x hi).2 y ((ready_turn h).2 hy)⟩⟩

theorem anc_turn {G H : List Ent} (hG : GOk G) (hH : GOk H) (h : ∀ e, e ∈ G ↔ e ∈ H) {x id : ByteArray} (ha : Anc G x id) : Anc H x id := by
  induction ha with
  | par hp => exact .par (by rw [← parG_turn hG hH h]; exact hp)
  | step hp _ ih => exact .step (by rw [← parG_turn hG hH h]; exact hp) ih

theorem past_turn {G H : List Ent} (hG : GOk G) (hH : GOk H) (h : ∀ e, e ∈ G ↔ e ∈ H) {id : ByteArray} {l : List ByteArray} (hl : IsPast G id l) : IsPast H id l :=
  ⟨hl.1, fun x => (hl.2 x).trans ⟨anc_turn hG hH h, anc_turn hH hG fun e => (h e).symm⟩⟩

/-- H holds some of G's entries; left holds the others' ids. -/
structure TurnI (G H : List Ent) (left : List ByteArray) : Prop where
  ok : GOk H
  sub : ∀ e ∈ H, e ∈ G
  nodup : left.Nodup
  left_iff : ∀ x, x ∈ left ↔ x ∈ idsG G ∧ x ∉ idsG H

theorem ord_mem {G : List Ent} {O : List ByteArray} (h : IsOrd G O) {x : ByteArray} : x ∈ O ↔ x ∈ idsG G := by
  have hp : OrdP G O := ⟨Nat.le_of_eq h.1, h.2⟩
  refine ⟨hp.sub, fun hx => Classical.byContradiction fun hn => ?_⟩
  have := nodup_sub (l := x :: O) (m := idsG G) (List.nodup_cons.2 ⟨hn, hp.nodup⟩) (fun y hy => by
    rcases List.mem_cons.1 hy with rfl | hy
    · exact hx
    · exact hp.sub hy)
  have h1 := h.1
  simp [idsG] at this
  omega

theorem TurnI.start {G : List Ent} {O : List ByteArray} (h : IsOrd G O) : TurnI G [] O :=
  ⟨GOk.nil, by simp, OrdP.nodup ⟨Nat.le_of_eq h.1, h.2⟩, fun x => by rw [ord_mem h]; simp [idsG]⟩

theorem TurnI.why {G H : List Ent} {left : List ByteArray} (hG : GOk G) (h : TurnI G H left) {x : ByteArray} (hx : x ∈ left) : whyG H x (parG G x) = if (parG G x).all (hasG H) = true then 0 else 9 := by
  obtain ⟨h1, h2⟩ := (h.left_iff x).1 hx
  obtain ⟨e, he, rfl⟩ := List.mem_map.1 h1
  have hs := hG.idok e he
  have hlen := nodup_sub (l := e.1 :: idsG H) (m := idsG G) (List.nodup_cons.2 ⟨h2, h.ok.nodup⟩) (fun y hy => by
    rcases List.mem_cons.1 hy with rfl | hy
    · exact h1
    · obtain ⟨e', he', rfl⟩ := List.mem_map.1 hy
      exact List.mem_map.2 ⟨e', h.sub e' he', rfl⟩)
  have h3 := hG.len
  simp [idsG] at hlen
  unfold whyG
  rw [if_neg (by omega), if_neg (by rw [hasG_false.2 h2]; decide), if_neg (by omega)]

theorem TurnI.next {G H : List Ent} {left : List ByteArray} (hG : GOk G) (h : TurnI G H left) (hl : 0 < left.length) : ∃ t, ∃ ht : t < left.length, (parG G left[t]).all (hasG H) = true := by
  have hmin : ∀ n : Nat, (∃ e : Ent, G[n]? = some e ∧ e.1 ∈ left) → ∃ x ∈ left, (parG G x).all (hasG H) = true := by
    intro n
    induction n using Nat.strongRecOn with
    | _ n ih =>
      rintro ⟨e, hi, ho⟩
      by_cases hall : ∀ p ∈ e.2, p ∈ idsG H
      · refine ⟨e.1, ho, List.all_eq_true.2 fun p hp => ?_⟩
        rw [parG_at hG.nodup hi] at hp
        exact hasG_iff.2 (hall p hp)
      · have : ∃ p ∈ e.2, p ∉ idsG H := Classical.byContradiction fun hno => hall fun p hp => Classical.byContradiction fun hpo => hno ⟨p, hp, hpo⟩
        obtain ⟨p, hp, hpo⟩ := this
        have hb := hG.back n e hi p hp
        obtain ⟨j, e', hj, rfl⟩ := mem_idsG hb
        have hjn : j < n := by
          have := (List.getElem?_eq_some_iff.1 hj).1
          rw [List.length_take] at this
          omega
        rw [List.getElem?_take_of_lt hjn] at hj
        exact ih j hjn ⟨e', hj, (h.left_iff _).2 ⟨List.mem_map.2 ⟨e', List.mem_of_getElem? hj, rfl⟩, hpo⟩⟩
  have hx : left[0] ∈ left := List.getElem_mem hl
  obtain ⟨i, e, hi, he⟩ := mem_idsG ((h.left_iff _).1 hx).1
  obtain ⟨x, hxl, hxa⟩ := hmin i ⟨e, hi, by rw [he]; exact hx⟩
  obtain ⟨t, ht, rfl⟩ := List.getElem_of_mem hxl
  exact ⟨t, ht, hxa⟩

theorem srt_self {l : List ByteArray} (h : SRising l) : srt l = l := srising_eq (srt_rising l) h fun s => srt_mem l s

theorem TurnI.put {G H : List Ent} {left : List ByteArray} (hG : GOk G) (h : TurnI G H left) {k : Nat} (hk : k < left.length) (h0 : (parG G left[k]).all (hasG H) = true) :
    TurnI G (addG H left[k] (parG G left[k])) (left.take k ++ left.drop (k + 1)) := by
  have hx : left[k] ∈ left := List.getElem_mem hk
  have hw := h.why hG hx
  rw [if_pos h0] at hw
  have hadd : addG H left[k] (parG G left[k]) = H ++ [(left[k], parG G left[k])] := by
    unfold addG
    rw [if_pos hw, srt_self (parG_rise hG _)]
  have hsplit : left = left.take k ++ left[k] :: left.drop (k + 1) := by
    rw [← List.drop_eq_getElem_cons hk, List.take_append_drop]
  have hnd := h.nodup
  rw [hsplit] at hnd
  obtain ⟨n1, n2, n3⟩ := List.nodup_append.1 hnd
  obtain ⟨n4, n5⟩ := List.nodup_cons.1 n2
  refine ⟨addG_ok h.ok _ _, ?_, ?_, fun x => ?_⟩
  · rw [hadd]
    intro e he
    rcases List.mem_append.1 he with he | he
    · exact h.sub e he
    · rw [List.mem_singleton.1 he]
      obtain ⟨e', he', hid⟩ := List.mem_map.1 ((h.left_iff _).1 hx).1
      have := parG_of hG he'
      rw [← hid, this]
      exact he'
  · exact List.nodup_append.2 ⟨n1, n5, fun a ha b hb => n3 a ha b (List.mem_cons_of_mem _ hb)⟩
  · rw [hadd, idsG_append, List.mem_append, List.mem_append]
    have hmem : x ∈ left ↔ (x ∈ left.take k ∨ x ∈ left.drop (k + 1)) ∨ x = left[k] := by
      conv => lhs; rw [hsplit]
      rw [List.mem_append, List.mem_cons]
      constructor
      · rintro (a | a | a)
        · exact .inl (.inl a)
        · exact .inr a
        · exact .inl (.inr a)
      · rintro ((a | a) | a)
        · exact .inl a
        · exact .inr (.inr a)
        · exact .inr (.inl a)
    have hne : (x ∈ left.take k ∨ x ∈ left.drop (k + 1)) → x ≠ left[k] := by
      rintro (a | a) e
      · exact n3 x a left[k] List.mem_cons_self e
      · rw [e] at a
        exact n4 a
    have hli := h.left_iff x
    constructor
    · intro a
      obtain ⟨b1, b2⟩ := hli.1 (hmem.2 (.inl a))
      exact ⟨b1, fun c => c.elim b2 fun c => hne a (by simpa [idsG] using c)⟩
    · rintro ⟨b1, b2⟩
      rcases hmem.1 (hli.2 ⟨b1, fun c => b2 (.inl c)⟩) with a | a
      · exact a
      · exact absurd (.inr (by rw [a]; simp [idsG])) b2

theorem TurnI.done {G H : List Ent} (hG : GOk G) (h : TurnI G H []) : G.length = H.length ∧ ∀ e, e ∈ G ↔ e ∈ H := by
  have hids : ∀ x, x ∈ idsG G → x ∈ idsG H := fun x hx => Classical.byContradiction fun hn => by
    have := (h.left_iff x).2 ⟨hx, hn⟩
    cases this
  have hids' : ∀ x, x ∈ idsG H → x ∈ idsG G := fun x hx => by
    obtain ⟨e, he, rfl⟩ := List.mem_map.1 hx
    exact List.mem_map.2 ⟨e, h.sub e he, rfl⟩
  refine ⟨?_, fun e => ⟨fun he => ?_, h.sub e⟩⟩
  · have h1 := nodup_sub hG.nodup hids
    have h2 := nodup_sub h.ok.nodup hids'
    simp [idsG] at h1 h2
    omega
  · obtain ⟨e', he', hid⟩ := List.mem_map.1 (hids e.1 (List.mem_map.2 ⟨e, he, rfl⟩))
    have h1 := parG_of hG he
    have h2 := parG_of hG (h.sub e' he')
    rw [hid, h1] at h2
    have : e' = e := Prod.ext hid h2.symm
    rw [← this]
    exact he'

/-- How far the next one that can be added is. -/
def farT (n t k : Nat) : Nat := if k ≤ t then t - k else t + n - k
theorem far_step {n t k : Nat} (hk : k < n) (ht : t < n) (hne : k ≠ t) : farT n t ((k + 1) % n) < farT n t k := by
  unfold farT
  by_cases h1 : k + 1 < n
  · rw [Nat.mod_eq_of_lt h1]
    split <;> split <;> omega
  · have : k + 1 = n := by omega
    rw [this, Nat.mod_self, if_pos (Nat.zero_le _)]
    split <;> omega

end Go.Proofs.Ytplgelmfhacjkaa

namespace Go.Proofs.Ytplgelmfhacjkaa
open Go.RowKit Go.Proofs.YtplgelmfhacjkaaW.PrintWords Go.Proofs.Ytplgelmfhacjkaa.PRef

theorem at_i64 {w : World} {A : Option Addr} {n : Nat} {xs : List Int} (h : Kd.C (Kd.int .i64) w A n xs) {i : Nat} (hi : i < xs.length) : ∃ ad, A = some ad ∧ w.cell? (ad.add i) = some (.int .i64 xs[i]) := by
  have hn : xs.length = n := h.1
  obtain ⟨ad, c, e, _, hK, hc⟩ := Kd.C_get h 0 (i : Int) (by omega) (by omega)
  refine ⟨ad, e, ?_⟩
  have hk : c = [.int .i64 (xs.getD ((i : Int)).toNat 0)] := hK
  subst hk
  have := hc 0 _ rfl
  simpa [show ((i : Int)).toNat = i by omega, hi, Kd.int, Kd.scalar] using this

theorem drop_block {w4 w5 : World} {o : Obj} {g : Nat} (h : ((w4.alloc o).drew).grownBy w5 (some w4.heap.size)) (hg : g < w4.heap.size) : w5.heap[g]? = w4.heap[g]? := by
  rw [h.block g (by show g < (w4.alloc o).heap.size; rw [asz]; omega) (fun e => by cases e; omega)]
  exact Below.heap_alloc _ _ _ hg

theorem drop_size {w4 w5 : World} {o : Obj} {row : Option Nat} (h : ((w4.alloc o).drew).grownBy w5 row) : w4.heap.size ≤ w5.heap.size := by
  have h1 : (w4.alloc o).heap.size ≤ w5.heap.size := h.size
  rw [asz] at h1
  omega

theorem rem_at (x : Int) {n : Nat} (h0 : 0 < n) (h1 : n ≤ 300) : ∃ k : Nat, k < n ∧ wrap64 ((IntKind.u64.wrap x).tmod (n : Int)) = (k : Int) := by
  have hx : 0 ≤ IntKind.u64.wrap x := by
    simp only [IntKind.wrap]
    exact Int.emod_nonneg _ (by decide)
  have h2 := Int.tmod_nonneg (b := (n : Int)) hx
  have h3 := Int.tmod_lt_of_pos (IntKind.u64.wrap x) (show (0 : Int) < (n : Int) by omega)
  refine ⟨((IntKind.u64.wrap x).tmod (n : Int)).toNat, by omega, ?_⟩
  unfold wrap64
  omega

theorem own_dag {w w' : World} {p a b : Nat} {G : List Ent} (h : DagRep w p a b G) (hf : Fr (fun k => k = a ∨ k = b) w w') {B e n : Nat} {v : Value} {xs : List Value} (ho : w.ownsRow B e 1 v n xs) : w'.ownsRow B e 1 v n xs := by
  obtain ⟨_, m, k, hm⟩ := h
  refine ⟨ho.1, ?_⟩
  rcases ho.2 with hn | ⟨g, cap, cur, rfl, hb, hgg, rest⟩
  · exact .inl hn
  · exact .inr ⟨g, cap, cur, rfl, hb, (hf.block g (Array.getElem?_eq_some_iff.1 hgg).1 fun hs => hs.elim (fun e => hm.ma.not_cells (e ▸ hgg)) (fun e => hm.mb.not_cells (e ▸ hgg))).trans hgg, rest⟩

set_option maxHeartbeats 8000000 in
set_option maxRecDepth 100000 in
theorem dturned_walk (A : Option Addr) (c : Nat) (l : List EntS) (A' : Option Addr) (c' : Nat) (by' : List Int) (w : World) (hc : l.length ≤ c) (hr : Kd.C k38 w A l.length l) (hc' : by'.length ≤ c') (hr' : Kd.C (Kd.int .i64) w A' by'.length by') :
    Calls Try.prog 7 #[.slice A l.length c, .slice A' by'.length c'] w fun e w' => e = .returned (.bool true) ∧ Below w.heap.size w w' := by
  obtain ⟨rg, hsm, hgr⟩ := great12_all l
  have HG := Lib.hid (hgr w A c hr hc)
  have HR := Lib.hid hr
  have HR' := Lib.hid hr'
  clear hgr hr hr'
  go_enter Try.func7, Try.ntmps7
  cases rg with
  | true =>
    go_wp2_with (first
      | (go_at_call 17; refine HG.out.mono ?_; rintro e w1 ⟨rfl, hd⟩; have HB1 := Lib.hid hd; clear hd)
      | (go_at_call 16; refine (awake12 _).mono ?_; rintro e w2 ⟨rfl, hb2⟩))
    go_ret
    exact ⟨rfl, HB1.out.trans (hb2.mono HB1.out.size)⟩
  | false =>
    obtain ⟨hs1, hs2⟩ := hsm rfl
    have HSM := Lib.hid hs2
    clear hs2 hsm
    go_upto_region 3 with (first
      | (go_at_call 17; refine HG.out.mono ?_; rintro e w0 ⟨rfl, hd⟩; have HB0 := Lib.hid hd; clear hd HG)
      | (go_at_call 16; refine (awake12 _).mono ?_; rintro e w1 ⟨rfl, hb1⟩; have HB1 := Lib.hid (HB0.out.trans (hb1.mono HB0.out.size)); clear hb1))
    have N1 := Lib.hid (new_any w1)
    go_wp2_with (first
      | (go_at_call 10; refine N1.out.mono ?_; rintro e w2 ⟨p, a, b, rfl, hp0, ha0, hb0, hd, hbl⟩; have ha := Nat.le_trans HB1.out.size ha0; have hb := Nat.le_trans HB1.out.size hb0; have HD2 := Lib.hid hd; have HB2 := Lib.hid (HB1.out.trans (hbl.mono HB1.out.size)); clear hp0 ha0 hb0 hd hbl N1)
      | (go_at_call 10; refine (new_any w2).mono ?_; rintro e w3 ⟨p2, a2, b2, rfl, hp0, ha2, hb2, hd, hbl⟩; have HD3 := Lib.hid (HD2.out.below hbl); have HE3 := Lib.hid hd; have HB3 := Lib.hid (HB2.out.trans (hbl.mono HB2.out.size)); have hab := HD2.out.lt; have hz2 := HB2.out.size; clear hp0 hd hbl HB2))
    go_loopw [7] (fun iv wr => ∃ j : Nat, iv = .int .i64 j ∧ j ≤ l.length ∧ DagRep wr p a b (addsG [] (l.take j)) ∧ Fr (fun k => k = a ∨ k = b) w3 wr) (fun iv _ => l.length - (intOf iv).toNat)
    case atStart => exact ⟨0, rfl, Nat.zero_le _, HD3.out, Fr.refl _ _⟩
    case round =>
      obtain ⟨j, rfl, hj, hd, hfr⟩ := hrel
      have hbl : Below w.heap.size w wr := HB3.out.trans (hfr.to_below HB3.out.size (fun k hk h => h.elim (fun e => by omega) (fun e => by omega)))
      have HFR := Lib.hid hfr
      clear hfr
      by_cases hlt : j < l.length
      · obtain ⟨ad, Ap, cp, rfl, k0, k1, hcp, hrp⟩ := ent_at (Kd.C_below HR.out hbl) hlt
        have hpl := HSM.out l[j] (List.getElem_mem hlt)
        have hstep := addsG_step (G := []) hlt
        obtain ⟨x, hx⟩ : ∃ x, x = l[j] := ⟨_, rfl⟩
        rw [← hx] at k0 k1 hcp hrp hpl hstep
        have HST := Lib.hid hstep
        have hdw : Below wr.heap.size wr wr.drew := (Below.refl wr.heap.size wr).drew
        have x0 : wr.drew.cell? (ad.add (j * 2)) = some (.string x.f0) := k0
        have x1 : wr.drew.cell? ⟨(ad.add (j * 2)).block, (ad.add (j * 2)).off + 1, none⟩ = some (.slice Ap x.f1.length cp) := k1
        have HDW := Lib.hid (hd.below hdw)
        have HAD := Lib.hid (addD_any HDW.out x.f0 (Kd.C_below hrp hdw) hcp (by omega))
        have HBL := Lib.hid hbl
        have hwj : IntKind.i64.wrap ((j : Int) + 1) = ((j + 1 : Nat) : Int) := wrapN (by omega)
        clear hd hbl hx hrp hstep hdw k0 k1
        go_upto_region 7 with fail
        go_region_held3 (fun W => W.cell? (ad.add (j * 2)) = some (.string x.f0) ∧ W.cell? ⟨(ad.add (j * 2)).block, (ad.add (j * 2)).off + 1, none⟩ = some (.slice Ap x.f1.length cp)) (refine ⟨?_, ?_⟩ <;> assumption)
          (first
            | (go_at_call 12; refine HAD.out.mono ?_; rintro e w5 ⟨rfl, hd5, hf5⟩; have y0 := cell_dag HDW.out hf5 x0; have y1 := cell_dag HDW.out hf5 x1; have HD5 := Lib.hid hd5; have HF5 := Lib.hid hf5; clear hd5 hf5))
        go_wp2_with fail
        refine ⟨⟨j + 1, rfl, by omega, by rw [HST.out]; exact HD5.out, HFR.out.drew.trans HF5.out (fun i _ h => h)⟩, by simp [intOf]; omega⟩
      · obtain rfl : j = l.length := by omega
        obtain ⟨w4, hw4⟩ : ∃ w4, w4 = wr := ⟨_, rfl⟩
        subst hw4
        have HE4 := Lib.hid (dag_beside HE3.out HD3.out HFR.out (by omega) (by omega) (by omega) (by omega))
        obtain ⟨GG, hGG⟩ : ∃ GG, GG = addsG [] (l.take l.length) := ⟨_, rfl⟩
        rw [← hGG] at hd
        clear hGG
        have hGo := hd.ok
        have HGO := Lib.hid hGo
        have HOR := Lib.hid (orderD_any hd)
        have HD4 := Lib.hid hd
        have HB4 := Lib.hid hbl
        clear hd hbl HFR HD3 HE3 HB3 hGo
        go_upto_region 9 with (go_at_call 14; refine HOR.out.mono ?_; rintro e w5 ⟨v5, O, rfl, hio, ho, hb5⟩; have HIO := Lib.hid hio; have HO5 := Lib.hid ho; have HB5 := Lib.hid (HB4.out.trans (hb5.mono HB4.out.size)); have HD5 := Lib.hid (HD4.out.below hb5); have HE5 := Lib.hid (HE4.out.below hb5); clear hio ho hb5 HOR)
        have hos := order_small HGO.out HIO.out
        have hz4 := HB4.out.size
        have hz5 := HB5.out.size
        go_wp2_with fail
        go_loopw [8, 9] (fun lv nv wr => ∃ (n : Nat) (L : List ByteArray) (H : List Ent), nv = .int .i64 n ∧ n + L.length = O.length ∧ TurnI GG H L ∧ wr.ownsRow w.heap.size 9 1 lv L.length (L.map Value.string) ∧ DagRep wr p a b GG ∧ DagRep wr p2 a2 b2 H ∧ Below w.heap.size w wr) (fun lv _ _ => lenOf lv)
        case atStart => exact ⟨0, O, [], rfl, by omega, TurnI.start HIO.out, ownsRow_weaken HO5.out hz4, HD5.out, HE5.out, HB5.out⟩
        case round =>
          obtain ⟨n, L, H, rfl, hnl, hti, ho, hda, hdb, hbl⟩ := hrel
          by_cases hl0 : 0 < L.length
          · obtain ⟨g, cL, rfl⟩ := own_pos ho hl0
            obtain ⟨t, ht, hadd⟩ := hti.next HGO.out hl0
            have hl1 : (0 : Int) < (L.length : Int) := by omega
            have hwn : IntKind.i64.wrap ((n : Int) + 1) = ((n + 1 : Nat) : Int) := wrapN (by omega)
            have HTI := Lib.hid hti
            have HO := Lib.hid ho
            have HDA := Lib.hid hda
            have HDB := Lib.hid hdb
            have HBL := Lib.hid hbl
            have HADD := Lib.hid hadd
            clear hti ho hda hdb hbl hadd
            have HNE := Lib.hid (show a2 ≠ a ∧ a2 ≠ b ∧ b2 ≠ a ∧ b2 ≠ b from ⟨by omega, by omega, by omega, by omega⟩)
            go_upto_if 50 with fail
            go_cut [10] (fun kv wx => ∃ k : Nat, kv = .int .i64 k ∧ k < L.length ∧ wx = wr)
            case first =>
              by_cases hn : n < by'.length
              · obtain ⟨adb, rfl, q0⟩ := at_i64 (Kd.C_below HR'.out HBL.out) hn
                have hn1 : (n : Int) < (by'.length : Int) := by omega
                have hn0 : (0 : Int) ≤ (n : Int) := by omega
                go_wp2_with fail
                go_meet
                case rel =>
                  obtain ⟨k, hk, hke⟩ := rem_at by'[n] hl0 (show L.length ≤ 300 by omega)
                  exact ⟨k, by rw [hke], hk, rfl⟩
              · have hn1 : ¬ (n : Int) < (by'.length : Int) := by omega
                go_wp2_with fail
                go_meet
                case rel => exact ⟨0, rfl, hl0, rfl⟩
            case rest =>
              obtain ⟨k, rfl, hk, rfl⟩ := hcut
              have hL3 : L.length ≤ 300 := by omega
              go_wp2_with fail
              go_loopw [10] (fun kv wq => ∃ k : Nat, kv = .int .i64 k ∧ k < L.length ∧ wq.ownsRow w.heap.size 9 1 (.slice (some ⟨g, 0, none⟩) L.length cL) L.length (L.map Value.string) ∧ DagRep wq p a b GG ∧ DagRep wq p2 a2 b2 H ∧ Below w.heap.size w wq) (fun kv _ => farT L.length t (intOf kv).toNat)
              case atStart => exact ⟨k, rfl, hk, HO.out, HDA.out, HDB.out, HBL.out⟩
              case round =>
                obtain ⟨k, rfl, hk, ho, hda, hdb, hbl⟩ := hrel
                have hk1 : (k : Int) < (L.length : Int) := by omega
                have hk0 : (0 : Int) ≤ (k : Int) := by omega
                obtain ⟨x, hx⟩ : ∃ x, x = L[k] := ⟨_, rfl⟩
                have hc0 := ho.cells (g := g) rfl k (.string x) (by rw [hx]; simp)
                rw [add0] at hc0
                have hdw : Below wr.heap.size wr wr.drew := (Below.refl wr.heap.size wr).drew
                have x0 : wr.drew.cell? ⟨g, k, none⟩ = some (.string x) := hc0
                have l0 := World.block_lt_of_cell? _ _ x0
                obtain ⟨P, hP⟩ : ∃ P, P = parG GG x := ⟨_, rfl⟩
                have hps : P.length ≤ 300 := by rw [hP]; exact par_le HGO.out x
                have hxm : x ∈ L := by rw [hx]; exact List.getElem_mem hk
                have hwy := HTI.out.why HGO.out hxm
                rw [← hP] at hwy
                have HPA := Lib.hid (parents_row (hda.below hdw) hP)
                have HAD := Lib.hid (fun (W : World) (hb : Below wr.drew.heap.size wr.drew W) (A5 : Option Addr) (c5 : Nat) (hr : Kd.C Kd.string W A5 P.length P) (hc : P.length ≤ c5) => addD_any ((hdb.below hdw).below hb) x hr hc (by omega))
                have HOW := Lib.hid (own_below ho hdw)
                have HDAW := Lib.hid (hda.below hdw)
                have HDBW := Lib.hid (hdb.below hdw)
                have HBLW := Lib.hid (hbl.trans (hdw.mono hbl.size))
                have HX := Lib.hid hx
                have HPP := Lib.hid hP
                by_cases hall : P.all (hasG H) = true
                · rw [if_pos hall] at hwy
                  rw [hwy] at HAD
                  have HALL := Lib.hid hall
                  clear ho hda hdb hbl hx hP hwy hall hc0 hdw hxm
                  go_upto_region 15 with fail
                  go_region_held3 (fun W => W.cell? ⟨g, k, none⟩ = some (.string x)) (assumption)
                    (first
                      | (go_at_call 25; refine HPA.out.mono ?_; rintro e w5 ⟨A5, c5, rfl, hc5, hr5, hb5⟩; have y0 := (hb5.cell (p := ⟨g, k, none⟩) l0).trans x0; have HR5 := Lib.hid hr5; have HB5 := Lib.hid hb5; clear hr5 hb5)
                      | (go_at_call 12; refine (HAD.out _ HB5.out _ _ HR5.out hc5).mono ?_; rintro e w6 ⟨rfl, hd6, hf6⟩; have z0 := cell_dag (HDBW.out.below HB5.out) hf6 y0; have HD6 := Lib.hid hd6; have HF6 := Lib.hid hf6; clear hd6 hf6))
                  have hb5w := HBLW.out.trans (HB5.out.mono HBLW.out.size)
                  have HB6 := Lib.hid (hb5w.trans (HF6.out.to_below hb5w.size (fun k hk h => h.elim (fun e => by omega) (fun e => by omega))))
                  have HDA6 := Lib.hid (dag_beside (HDAW.out.below HB5.out) (HDBW.out.below HB5.out) HF6.out HNE.out.1 HNE.out.2.1 HNE.out.2.2.1 HNE.out.2.2.2)
                  have ho6 := own_dag (HDBW.out.below HB5.out) HF6.out (own_below HOW.out HB5.out)
                  have hgl : g < w6.heap.size := World.block_lt_of_cell? _ _ z0
                  have hNc : L.length ≤ cL := by
                    obtain ⟨_, _, e, h⟩ := own_slice ho6
                    cases e
                    exact h
                  have HTN := Lib.hid (HTI.out.put HGO.out hk (by rw [← HX.out, ← HPP.out]; exact HALL.out))
                  rw [← HX.out, ← HPP.out] at HTN
                  have hLS : (L.map Value.string).length = L.length := by simp
                  obtain ⟨U, hU⟩ : ∃ U, U = L.map Value.string := ⟨_, rfl⟩
                  rw [← hU] at ho6 hLS
                  obtain ⟨N, hN⟩ : ∃ N, N = L.length := ⟨_, rfl⟩
                  have hUk : U.take k ++ U.drop (k + 1) = (L.take k ++ L.drop (k + 1)).map Value.string := by rw [hU, List.map_append, List.map_take, List.map_drop]
                  have hLk : (L.take k ++ L.drop (k + 1)).length + 1 = L.length := by simp; omega
                  have HUK := Lib.hid hUk
                  have HLK := Lib.hid hLk
                  have hU1 : ∀ u ∈ U, u.oneCell' = true := fun u hu => by
                    rw [hU] at hu
                    obtain ⟨s, _, rfl⟩ := List.mem_map.1 hu
                    rfl
                  clear hUk hLk hU
                  rw [← hN] at hLS hNc hk hnl hL3 hl0 ho6 hk1 hl1 ⊢
                  have HN := Lib.hid hN
                  clear hN
                  have hic : k ≤ cL := by omega
                  have hjn : k + 1 ≤ N := by omega
                  have hjc : k + 1 ≤ cL := by omega
                  have hq0 : (0 : Int) ≤ (k : Int) + 1 := by omega
                  have hq1 : (k : Int) + 1 ≤ (N : Int) := by omega
                  have hq2 : (k : Int) + 1 ≤ (cL : Int) := by omega
                  have hq3 : (k : Int) ≤ (N : Int) := by omega
                  have hq4 : (k : Int) ≤ (cL : Int) := by omega
                  have hq5 : (N : Int) ≤ (cL : Int) := by omega
                  obtain ⟨AA, hA⟩ : ∃ AA : Addr, (if cL = k + 1 then some (⟨g, 0, none⟩ : Addr) else some ⟨g, k + 1, none⟩) = some AA := by
                    by_cases h : cL = k + 1
                    · exact ⟨_, by rw [if_pos h]⟩
                    · exact ⟨_, by rw [if_neg h]⟩
                  have hwr1 : IntKind.i64.wrap ((k : Int) + 1) = (k : Int) + 1 := IntWalk.i64_in _ (by omega)
                  have hto : ((k : Int) + 1).toNat = k + 1 := by omega
                  have hl1' : (U.take k).length = k * 1 := by rw [List.length_take]; omega
                  have hl2' : (U.drop (k + 1)).length = (N - (k + 1)) * 1 := by rw [List.length_drop]; omega
                  have hcells : ∀ (x : World), x.heap[g]? = w6.heap[g]? → ∀ j u, U[j]? = some u → x.cell? ⟨g, j, none⟩ = some u := fun x hx j u hu => by
                    have h0 := ho6.cells (g := g) rfl j u hu
                    rw [add0] at h0
                    exact (World.cell?_of_block hx).trans h0
                  have hs1 : ∀ (x : World), x.heap[g]? = w6.heap[g]? → ∀ j u, (U.take k)[j]? = some u → x.cell? ((⟨g, 0, none⟩ : Addr).add j) = some u := fun x hx j u hu => by
                    rw [List.getElem?_take] at hu
                    split at hu
                    · rw [add0]; exact hcells x hx j u hu
                    · cases hu
                  have hs2 : ∀ (x : World), x.heap[g]? = w6.heap[g]? → ∀ j u, (U.drop (k + 1))[j]? = some u → x.cell? (AA.add j) = some u := fun x hx j u hu => by
                    by_cases h : cL = k + 1
                    · rw [List.eq_nil_of_length_eq_zero (l := U.drop (k + 1)) (by rw [hl2']; omega)] at hu
                      simp at hu
                    · rw [if_neg h] at hA
                      cases hA
                      rw [List.getElem?_drop] at hu
                      rw [addk']
                      exact hcells x hx _ u hu
                  have HS1 := Lib.hid hs1
                  have HS2' := Lib.hid hs2
                  have HL1 := Lib.hid hl1'
                  have HL2 := Lib.hid hl2'
                  have HU1 := Lib.hid hU1
                  have HO6 := Lib.hid ho6
                  obtain ⟨i0, hii0, hz0, hz1, hz2⟩ := info_parts info_strs
                  clear hcells hs1 hs2 hl1' hl2' hU1 ho6 hb5w hLS
                  go_upto_region 17 with fail
                  go_region_law ((first
                    | (refine step_append_own rfl (.tmp 79) (.tmp 82) 25 rfl w6.heap.size 9 i0 _ 1 16 Try.underlying25 hii0 hz0 hz1 hz2 rfl (by decide) (.slice (some ⟨w6.heap.size, 0, none⟩) 0 0) 0 [] rfl (own_empty _ _ _) ⟨g, 0, none⟩ k cL (U.take k) rfl HL1.out (HS1.out _ (Below.heap_alloc _ _ _ hgl)) (fun u hu => HU1.out u (List.mem_of_mem_take hu)) (by unfold maxLen; omega) (by omega) (by show w6.heap.size ≤ (w6.alloc _).heap.size; rw [asz]; omega) ?_; intro v7 w7 ho7 hg7 hn7 hat7)
                    | (refine step_append_own rfl (.tmp 83) (.tmp 87) 25 rfl w6.heap.size 9 i0 _ 1 16 Try.underlying25 hii0 hz0 hz1 hz2 rfl (by decide) v7 (0 + k) ([] ++ U.take k) rfl ho7 AA (N - (k + 1)) (cL - (k + 1)) (U.drop (k + 1)) (by simp [Act.eval, Act.put]) HL2.out (HS2'.out _ (drop_block hg7 hgl)) (fun u hu => HU1.out u (List.mem_of_mem_drop hu)) (by unfold maxLen; omega) (by omega) (drop_size hg7) ?_; intro v8 w8 ho8 hg8 hn8 hat8)))
                  go_wp2_with fail
                  have h68 : Below w6.heap.size w6 w8 := ((((((Fr.of_below (S := fun _ => False) (Below.refl w6.heap.size w6)).alloc _).drew).grown hg7 fun b hb => .inl (by cases hb; exact Nat.le_refl _)).grown hg8 fun b hb => .inl (ho7.lt b hb).1)).to_below (Nat.le_refl _) fun _ _ h => h
                  have hn1 := HN.out
                  have hn2 := HLK.out
                  have e1 : 0 + k + (N - (k + 1)) = (L.take k ++ L.drop (k + 1)).length := by omega
                  have e2 : [] ++ U.take k ++ U.drop (k + 1) = (L.take k ++ L.drop (k + 1)).map Value.string := by rw [List.nil_append]; exact HUK.out
                  rw [e1, e2] at ho8
                  have hz6 := HB6.out.size
                  refine ⟨⟨n + 1, L.take k ++ L.drop (k + 1), addG H x P, rfl, by omega, HTN.out, ownsRow_weaken ho8 hz6, HDA6.out.below h68, HD6.out.below h68, HB6.out.trans (h68.mono hz6)⟩, ?_⟩
                  rw [own_len ho8]
                  show _ < L.length
                  omega
                · have hne : k ≠ t := fun e => by
                    subst e
                    rw [← HX.out, ← HPP.out] at HADD
                    exact hall HADD.out
                  rw [if_neg hall] at hwy
                  have hsame : addG H x P = H := by
                    unfold addG
                    rw [if_neg (by rw [hwy]; decide)]
                  rw [hwy, hsame] at HAD
                  clear ho hda hdb hbl hx hP hwy hall hc0 hdw hxm hsame
                  have hfar := far_step hk ht hne
                  have hmod : (k + 1) % L.length < L.length := Nat.mod_lt _ hl0
                  obtain ⟨k2, hk2⟩ : ∃ k2, k2 = (k + 1) % L.length := ⟨_, rfl⟩
                  rw [← hk2] at hfar hmod
                  have hwk : IntKind.i64.wrap ((k : Int) + 1) = ((k + 1 : Nat) : Int) := wrapN (by omega)
                  have HEM := Lib.hid (show ((k : Int) + 1) % (L.length : Int) = (k2 : Int) by rw [hk2]; rfl)
                  clear hk2
                  go_upto_region 15 with fail
                  go_region_held3 (fun W => W.cell? ⟨g, k, none⟩ = some (.string x)) (assumption)
                    (first
                      | (go_at_call 25; refine HPA.out.mono ?_; rintro e w5 ⟨A5, c5, rfl, hc5, hr5, hb5⟩; have y0 := (hb5.cell (p := ⟨g, k, none⟩) l0).trans x0; have HR5 := Lib.hid hr5; have HB5 := Lib.hid hb5; clear hr5 hb5)
                      | (go_at_call 12; refine (HAD.out _ HB5.out _ _ HR5.out hc5).mono ?_; rintro e w6 ⟨rfl, hd6, hf6⟩; have z0 := cell_dag (HDBW.out.below HB5.out) hf6 y0; have HD6 := Lib.hid hd6; have HF6 := Lib.hid hf6; clear hd6 hf6))
                  go_wp2_with fail
                  rw [HEM.out]
                  have hb5w := HBLW.out.trans (HB5.out.mono HBLW.out.size)
                  exact ⟨⟨k2, rfl, hmod, own_dag (HDBW.out.below HB5.out) HF6.out (own_below HOW.out HB5.out), dag_beside (HDAW.out.below HB5.out) (HDBW.out.below HB5.out) HF6.out HNE.out.1 HNE.out.2.1 HNE.out.2.2.1 HNE.out.2.2.2, HD6.out, hb5w.trans (HF6.out.to_below hb5w.size (fun k hk h => h.elim (fun e => by omega) (fun e => by omega)))⟩, by simpa [intOf] using hfar⟩
          · have hL0 : L = [] := List.eq_nil_of_length_eq_zero (by omega)
            subst hL0
            obtain ⟨AL, cL, rfl, _⟩ := own_slice ho
            obtain ⟨hlen, hsame⟩ := hti.done HGO.out
            have hH := hti.ok
            obtain ⟨E, hE⟩ := heads_exist GG
            have hes := heads_small HGO.out hE
            have hE' := heads_turn hsame hE
            have hO' := order_turn hlen hsame HIO.out
            obtain ⟨w6, hw6⟩ : ∃ w6, w6 = wr := ⟨_, rfl⟩
            subst hw6
            have HHA := Lib.hid (heads_row hda hE)
            have HHB := Lib.hid (fun (W : World) (h : DagRep W p2 a2 b2 H) => heads_row h hE')
            have HOA := Lib.hid (fun (W : World) (h : DagRep W p a b GG) => order_row h HIO.out)
            have HOB := Lib.hid (fun (W : World) (h : DagRep W p2 a2 b2 H) => order_row h hO')
            have HLA := Lib.hid (fun (W : World) (h : DagRep W p a b GG) => lenD_any h)
            have HLB := Lib.hid (fun (W : World) (h : DagRep W p2 a2 b2 H) => lenD_any h)
            rw [← hlen] at HLB
            have HPT := Lib.hid (fun (x : ByteArray) (r : List ByteArray) (h : IsPast GG x r) => past_turn HGO.out hH hsame h)
            have HOA2 := Lib.hid HOA.out
            have HDA6 := Lib.hid hda
            have HDB6 := Lib.hid hdb
            have HB6 := Lib.hid hbl
            clear hda hdb hbl hti ho hlen hsame hH hE hE' hO'
            go_upto_region 20 with (first
              | (go_at_call 15; refine HHA.out.mono ?_; rintro e w7 ⟨A7, c7, rfl, hc7, hr7, hb7⟩; have HB7 := Lib.hid (HB6.out.trans (hb7.mono HB6.out.size)); have HDA7 := Lib.hid (HDA6.out.below hb7); have HDB7 := Lib.hid (HDB6.out.below hb7); have HR7 := Lib.hid hr7; clear hr7 hb7 HHA)
              | (go_at_call 15; refine (HHB.out _ HDB7.out).mono ?_; rintro e w8 ⟨A8, c8, rfl, hc8, hr8, hb8⟩; have HB8 := Lib.hid (HB7.out.trans (hb8.mono HB7.out.size)); have HDA8 := Lib.hid (HDA7.out.below hb8); have HDB8 := Lib.hid (HDB7.out.below hb8); have HSM8 := Lib.hid (same_row (Kd.C_below HR7.out hb8) hc7 hr8 hc8 (by omega)); clear hr8 hb8 HHB)
              | (go_at_call 24; refine HSM8.out.mono ?_; rintro e w9 ⟨rfl, hb9⟩; have HB9 := Lib.hid (HB8.out.trans (hb9.mono HB8.out.size)); have HDA9 := Lib.hid (HDA8.out.below hb9); have HDB9 := Lib.hid (HDB8.out.below hb9); clear hb9 HSM8)
              | (go_at_call 14; refine (HOA.out _ HDA9.out).mono ?_; rintro e w10 ⟨A10, c10, rfl, hc10, hr10, hb10⟩; have HB10 := Lib.hid (HB9.out.trans (hb10.mono HB9.out.size)); have HDA10 := Lib.hid (HDA9.out.below hb10); have HDB10 := Lib.hid (HDB9.out.below hb10); have HR10 := Lib.hid hr10; clear hr10 hb10 HOA)
              | (go_at_call 14; refine (HOB.out _ HDB10.out).mono ?_; rintro e w11 ⟨A11, c11, rfl, hc11, hr11, hb11⟩; have HB11 := Lib.hid (HB10.out.trans (hb11.mono HB10.out.size)); have HDA11 := Lib.hid (HDA10.out.below hb11); have HDB11 := Lib.hid (HDB10.out.below hb11); have HSM11 := Lib.hid (same_row (Kd.C_below HR10.out hb11) hc10 hr11 hc11 (by omega)); clear hr11 hb11 HOB)
              | (go_at_call 24; refine HSM11.out.mono ?_; rintro e w12 ⟨rfl, hb12⟩; have HB12 := Lib.hid (HB11.out.trans (hb12.mono HB11.out.size)); have HDA12 := Lib.hid (HDA11.out.below hb12); have HDB12 := Lib.hid (HDB11.out.below hb12); clear hb12 HSM11)
              | (go_at_call 13; refine (HLA.out _ HDA12.out).mono ?_; rintro e w13 ⟨rfl, hw13⟩; rw [hw13]; clear hw13 HLA)
              | (go_at_call 13; refine (HLB.out _ HDB12.out).mono ?_; rintro e w14 ⟨rfl, hw14⟩; rw [hw14]; clear hw14 HLB))
            go_wp2_with (go_at_call 14; refine (HOA2.out _ HDA12.out).mono ?_; rintro e w15 ⟨A15, c15, rfl, hc15, hr15, hb15⟩; have HB15 := Lib.hid (HB12.out.trans (hb15.mono HB12.out.size)); have HDA15 := Lib.hid (HDA12.out.below hb15); have HDB15 := Lib.hid (HDB12.out.below hb15); have HR15 := Lib.hid hr15; clear hr15 hb15)
            go_loopw [12] (fun iv wq => ∃ i : Nat, iv = .int .i64 i ∧ i ≤ O.length ∧ Below w15.heap.size w15 wq) (fun iv _ => O.length - (intOf iv).toNat)
            case atStart => exact ⟨0, rfl, Nat.zero_le _, Below.refl _ _⟩
            case round =>
              obtain ⟨i, rfl, hi, hbi⟩ := hrel
              have hwi : IntKind.i64.wrap ((i : Int) + 1) = ((i + 1 : Nat) : Int) := wrapN (by omega)
              by_cases hlt : i < O.length
              · have hlt1 : (i : Int) < (O.length : Int) := by omega
                have hlt0 : (0 : Int) ≤ (i : Int) := by omega
                obtain ⟨ad, rfl, q0⟩ := at_str (Kd.C_below HR15.out hbi) hlt
                obtain ⟨x, hx⟩ : ∃ x, x = O[i] := ⟨_, rfl⟩
                rw [← hx] at q0
                have hdw : Below wr.heap.size wr wr.drew := (Below.refl wr.heap.size wr).drew
                have x0 : wr.drew.cell? (ad.add i) = some (.string x) := q0
                have l0 := World.block_lt_of_cell? _ _ x0
                obtain ⟨T, hT⟩ := past_some HGO.out x
                have hts := past_small HGO.out hT
                have HTA := Lib.hid (past_row ((HDA15.out.below hbi).below hdw) hT)
                have HTB := Lib.hid (fun (W : World) (h : DagRep W p2 a2 b2 H) => past_row h (HPT.out x T hT))
                have HDBW := Lib.hid ((HDB15.out.below hbi).below hdw)
                have hzi := hbi.size
                have HBI := Lib.hid hbi.drew
                clear hx hbi q0 hdw hT
                go_upto_region 24 with fail
                go_region_held3 (fun W => W.cell? (ad.add i) = some (.string x)) (assumption)
                  (first
                    | (go_at_call 27; refine HTA.out.mono ?_; rintro e w16 ⟨A16, c16, rfl, hc16, hr16, hb16⟩; have y0 := (hb16.cell (p := ad.add i) l0).trans x0; have l1 := World.block_lt_of_cell? _ _ y0; have HR16 := Lib.hid hr16; have HB16 := Lib.hid hb16; clear hr16 hb16 HTA)
                    | (go_at_call 27; refine (HTB.out _ (HDBW.out.below HB16.out)).mono ?_; rintro e w17 ⟨A17, c17, rfl, hc17, hr17, hb17⟩; have z0 := (hb17.cell (p := ad.add i) l1).trans y0; have l2 := World.block_lt_of_cell? _ _ z0; have HSM17 := Lib.hid (same_row (Kd.C_below HR16.out hb17) hc16 hr17 hc17 (by omega)); have HB17 := Lib.hid hb17; clear hr17 hb17 HTB)
                    | (go_at_call 24; refine HSM17.out.mono ?_; rintro e w18 ⟨rfl, hb18⟩; have u0 := (hb18.cell (p := ad.add i) l2).trans z0; have HB18 := Lib.hid hb18; clear hb18 HSM17))
                go_wp2_with fail
                exact ⟨⟨i + 1, rfl, by omega, HBI.out.trans ((HB16.out.mono hzi).trans ((HB17.out.mono (Nat.le_trans hzi HB16.out.size)).trans (HB18.out.mono (Nat.le_trans (Nat.le_trans hzi HB16.out.size) HB17.out.size))))⟩, by simp [intOf]; omega⟩
              · obtain rfl : i = O.length := by omega
                have HBI := Lib.hid hbi
                clear hbi
                go_wp2_with fail
                go_ret
                exact ⟨rfl, HB15.out.trans (HBI.out.mono HB15.out.size)⟩

end Go.Proofs.Ytplgelmfhacjkaa

namespace Go.Proofs.Ytplgelmfhacjkaa
open Go.ChangeShapes Go.WideShapes Go.ChangeAt Go.RowKit Go.Proofs.YtplgelmfhacjkaaW.PrintWords Go.Proofs.Ytplgelmfhacjkaa.PRef

set_option maxRecDepth 100000 in
theorem dagTurned_lifted (os : Os) (started : os.Started) (H : Type) (enc : TypeId × Value → H) :
    ReturnsInHanded {} Try.checked os 7 .any (Rows.dagTurnedSpec.pre6 enc Try.prog Try.f7 Rows.dagTurnedRow.domain false) (Rows.dagTurnedSpec.post enc Try.prog Try.f7 false true false false) := by
  refine returnsInHanded_of_change_sized (C := Try.checked) own0 started (by kernel_rfl) Try.func7
    (ChangeSpec.witness6 (enc := enc) (C := Try.checked) false ⟨#[], #[.slice none 0 0, .slice none 0 0], []⟩ 8 (by kernel_rfl) (by kernel_rfl) (by kernel_rfl) (by kernel_rfl)) ?_
  intro W base args ds gs before hval0 hW hcnd hsz0 _
  have hval : ∀ (j : Nat) t v, Try.f7.params[j]? = some t → args[j]? = some v → Value.okWide Try.prog W .any base t v := hval0
  have hW' := hW
  obtain ⟨p, q, hA0, hV, rfl, hfz, hnd⟩ := hW
  have hA : DataW.TrodAll enc Try.prog W 0 (fun _ => true) true Try.f7.params.toList args.toList ds p := hA0
  rw [Try.params7] at hA hval
  obtain ⟨v0, vs0, d0, ds0, p0, q0, hargs, rfl, rfl, h0, r0⟩ := trodAll_cons hA
  obtain ⟨v1, vs1, d1, ds1, p1, q1, rfl, rfl, rfl, h1, r1⟩ := trodAll_cons r0
  obtain ⟨rfl, rfl, rfl⟩ := trodAll_nil r1
  obtain rfl : args = #[v0, v1] := by cases args; simp_all
  obtain ⟨rfl, rfl⟩ := trodVars_none hV
  obtain ⟨A0, n0, c0, rfl⟩ := okWide_slice Try.underlying33 (hval 0 33 v0 rfl rfl)
  obtain ⟨A1, n1, c1, rfl⟩ := okWide_slice Try.underlying49 (hval 1 49 v1 rfl rfl)
  have k0 := h0
  have k1 := h1
  have lt0 : ∀ x ∈ p0, x.block < W.heap.size := by obtain ⟨m, hm⟩ := k0; exact DataW.trod_lt m _ _ _ hm
  have lt1 : ∀ x ∈ p1, x.block < W.heap.size := by obtain ⟨m, hm⟩ := k1; exact DataW.trod_lt m _ _ _ hm
  obtain ⟨m0, hm0⟩ := h0
  obtain ⟨x0, hy0, hz0⟩ := Opens.slice Try.underlying33 (by kernel_rfl) (ent_opens enc W _ _) m0 _ _ hm0
  obtain ⟨B0, e0, E0, l0, g0⟩ := hy0
  cases E0
  have hh0 := hz0.2
  obtain ⟨m1, hm1⟩ := h1
  obtain ⟨x1, hy1, hz1⟩ := Opens.slice Try.underlying49 (by kernel_rfl) (Opens.int Try.underlying3) m1 _ _ hm1
  obtain ⟨B1, e1, E1, l1, g1⟩ := hy1
  cases E1
  have hh1 := hz1.2
  clear hA0 hval0 hsz0
  refine (dturned_walk A0 c0 x0 A1 c1 x1 W l0 g0 l1 g1).mono fun e W' ⟨he, bel⟩ => ?_
  subst he
  exact ⟨_, rfl, _, _, _, [], _, [], hW', trodAll_mk1 (shut_bool Try.underlying4 _), (trodAll_cons_mk (Below.trod laid (by kernel_rfl) (of_decide_eq_true (by kernel_rfl)) k0 bel lt0) (trodAll_cons_mk (Below.trod laid (by kernel_rfl) (of_decide_eq_true (by kernel_rfl)) k1 bel lt1) trodAll_mk0)), rfl, bel.frame _, fun h => by cases h⟩

theorem dagTurned_over : Rows.dagTurnedRow.holds Try.pinned (OpenSpec.ofChange Rows.dagTurnedSpec) :=
  OpenClaim.holds_of_wide 7 Try.f7 rfl rfl rfl rfl rfl rfl rfl ⟨rfl, rfl, rfl, rfl, rfl⟩ rfl rfl rfl rfl rfl (by kernel_rfl) Try.func7 (by kernel_rfl)
    (of_decide_eq_true (by kernel_rfl)) (by unfold Func.isWrapper; first | (rw [if_pos (by decide +kernel)]; kernel_rfl) | (rw [if_neg (by decide +kernel)]; exact ⟨rfl, rfl⟩))
    (fun os started H enc _ => dagTurned_lifted os started H enc)

theorem dagTurned_holds : Rows.DagTurnedSaid := dagTurned_over
#print axioms dagTurned_holds

end Go.Proofs.Ytplgelmfhacjkaa
