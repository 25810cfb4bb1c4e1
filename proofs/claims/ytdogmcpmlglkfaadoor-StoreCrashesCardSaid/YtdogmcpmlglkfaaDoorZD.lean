/- Logs on disks in plain; the references of chapter 11; a store that stands. -/
import Derived.Test.YtdogmcpmlglkfaaDoorZC
import Derived.Test.YtdogmcpmlglkfaaDoorPRefx
import Derived.Test.YtdogmcpmlglkfaaDoorRows
import Derived.Test.YtdogmcpmlglkfaaDoorZA
import Derived.OpenShut
import Derived.ChangeOld
import Derived.Test.YtdogmcpmlglkfaaDoorTie
import Derived.Test.YtdogmcpmlglkfaaDoorCards
import Derived.ProofKit
import Derived.LaidMore
import Derived.Stop.Joined
import Derived.SevenTiedAt

namespace Go.Proofs.YtdogmcpmlglkfaaDoor
open Go.RowKit Go.Proofs.YtdogmcpmlglkfaaDoorW.PrintWords

theorem snoc_ind {α : Type} {P : List α → Prop} (h0 : P []) (h1 : ∀ l x, P l → P (l ++ [x])) : ∀ l, P l := fun l => by
  have key : ∀ n (l : List α), l.length = n → P l := by
    intro n
    induction n with
    | zero => intro l h; rw [List.eq_nil_of_length_eq_zero h]; exact h0
    | succ n ih =>
      intro l h
      have hne : l ≠ [] := by rintro rfl; cases h
      rw [← List.dropLast_concat_getLast hne]
      exact h1 _ _ (ih _ (by rw [List.length_dropLast, h]; rfl))
  exact key _ l rfl

theorem ba_nil (a : ByteArray) : a ++ (⟨#[]⟩ : ByteArray) = a := by
  apply WideShapes.bytes_inj
  simp

/-! ### records, sealed, one behind the other -/
def cat (rs : List ByteArray) : ByteArray := rs.foldl (fun b r => b ++ sld r) ⟨#[]⟩
theorem cat_snoc (rs : List ByteArray) (r : ByteArray) : cat (rs ++ [r]) = cat rs ++ sld r := by simp [cat]

theorem cat_run : ∀ (rs : List ByteArray), (∀ r ∈ rs, r.size ≤ 65535) → ∀ tl, Run (cat rs ++ tl) rs (cat rs).size := by
  refine snoc_ind (fun _ tl => Run.start) fun l x ih h tl => ?_
  have h1 := ih (fun r hr => h r (List.mem_append_left _ hr)) (sld x ++ tl)
  rw [cat_snoc, ByteArray.append_assoc, ByteArray.size_append, sld_size]
  have hx := h x (by simp)
  refine Run.step h1 ?_ ?_
  · rw [ByteArray.size_append, ByteArray.size_append, sld_size]; omega
  · rw [extract_right, openF_sld x tl hx]
    congr 2

theorem Run.det {data : ByteArray} {r1 : List ByteArray} {a1 : Nat} (h1 : Run data r1 a1) : ∀ {r2 : List ByteArray} {a2 : Nat}, Run data r2 a2 → r1.length = r2.length → r1 = r2 ∧ a1 = a2 := by
  induction h1 with
  | start =>
    intro r2 a2 h2 hl
    cases h2 with
    | start => exact ⟨rfl, rfl⟩
    | step _ _ _ => simp at hl
  | step h hlt ho ih =>
    intro r2 a2 h2 hl
    cases h2 with
    | start => simp at hl
    | step h' hlt' ho' =>
      obtain ⟨rfl, rfl⟩ := ih h' (by simpa using hl)
      rw [ho] at ho'
      simp only [Prod.mk.injEq] at ho'
      obtain ⟨rfl, h2, _⟩ := ho'
      exact ⟨rfl, by omega⟩

theorem Run.at {data : ByteArray} {r : List ByteArray} {a : Nat} (h : Run data r a) : ∀ k, k < r.length → ∃ b, Run data (r.take k) b ∧ ¬ Stop data b := by
  induction h with
  | start => intro k hk; simp at hk
  | @step recs a m r h hlt ho ih =>
    intro k hk
    rw [List.length_append] at hk
    by_cases hk2 : k < recs.length
    · obtain ⟨b, h1, h2⟩ := ih k hk2
      exact ⟨b, by rw [List.take_append_of_le_length (by omega)]; exact h1, h2⟩
    · obtain rfl : k = recs.length := by simp at hk; omega
      refine ⟨a, by rw [List.take_left]; exact h, ?_⟩
      rintro (hs | hs)
      · omega
      · rw [ho] at hs; cases hs

theorem Run.stop {data : ByteArray} {r1 r2 : List ByteArray} {a1 a2 : Nat} (h1 : Run data r1 a1) (s1 : Stop data a1) (h2 : Run data r2 a2) (s2 : Stop data a2) : r1 = r2 ∧ a1 = a2 := by
  rcases Nat.lt_trichotomy r1.length r2.length with h | h | h
  · obtain ⟨b, hb, hn⟩ := h2.at _ h
    have := h1.det hb (by rw [List.length_take]; omega)
    exact absurd (this.2 ▸ s1) hn
  · exact h1.det h2 h
  · obtain ⟨b, hb, hn⟩ := h1.at _ h
    have := h2.det hb (by rw [List.length_take]; omega)
    exact absurd (this.2 ▸ s2) hn

/-- What may lie behind the records: nothing, or what is no record. -/
def Tail (tl : ByteArray) : Prop := tl.size = 0 ∨ (openF tl).2.2 = false

theorem cat_stop (rs : List ByteArray) (tl : ByteArray) (h : Tail tl) : Stop (cat rs ++ tl) (cat rs).size := by
  rcases h with h | h
  · exact .inl (by rw [ByteArray.size_append]; omega)
  · exact .inr (by rw [extract_right]; exact h)

/-! ### the names of segments -/
def dval (l : List UInt8) : Nat := l.foldl (fun a d => a * 10 + (d.toNat - 48)) 0

theorem dig_inj {n m : Nat} (hn : n < 100) (hm : m < 100) (h : dig n = dig m) : n = m := by
  have key : ∀ k : Fin 100, dval (Lib.decDigits k.val) = k.val := by decide +kernel
  have h1 : dval (Lib.decDigits n) = n := key ⟨n, hn⟩
  have h2 : dval (Lib.decDigits m) = m := key ⟨m, hm⟩
  have h3 : Lib.decDigits n = Lib.decDigits m := by
    have := congrArg (fun b : ByteArray => b.data.toList) h
    simpa [dig] using this
  rw [← h1, ← h2, h3]

theorem seg_inj {nm : ByteArray} {n m : Nat} (hn : n < 100) (hm : m < 100) (h : seg nm n = seg nm m) : n = m := by
  refine dig_inj hn hm ?_
  have h1 := extract_right (nm ++ ⟨#[46]⟩) (dig n)
  have h2 := extract_right (nm ++ ⟨#[46]⟩) (dig m)
  rw [show nm ++ ⟨#[46]⟩ ++ dig n = seg nm n from rfl] at h1
  rw [show nm ++ ⟨#[46]⟩ ++ dig m = seg nm m from rfl] at h2
  rw [← h1, ← h2, h]

theorem seg_fine {nm : ByteArray} {n : Nat} (hn : n < 100) (h : nm.size ≤ 28) : badName (seg nm n) = false := by
  have h1 := seg_size (name := nm) hn h
  refine decide_eq_false ?_
  rintro (h2 | h2)
  · have := toList_nil_size h2; omega
  · omega

/-! ### a disk's files -/
theorem dget_put (fs : List DFile) (f : DFile) (name : ByteArray) : dget (dput fs f) name = if name = f.name then some f else dget fs name := by
  unfold dput
  by_cases hs : (dget fs f.name).isSome = true
  · rw [if_pos hs]
    by_cases hn : name = f.name
    · subst hn
      rw [if_pos rfl]
      unfold dget at hs ⊢
      induction fs with
      | nil => cases hs
      | cons g fs ih =>
        by_cases hg : g.name = f.name
        · simp [hg]
        · simp only [List.find?_cons, hg, decide_false, if_false, List.map_cons] at hs ⊢
          exact ih hs
    · rw [if_neg hn]
      clear hs
      unfold dget
      induction fs with
      | nil => rfl
      | cons g fs ih =>
        by_cases hg : g.name = f.name
        · have h1 : ¬ f.name = name := fun e => hn e.symm
          simp only [List.map_cons, List.find?_cons, hg, if_true, h1, decide_false]
          exact ih
        · simp only [List.map_cons, List.find?_cons, hg, if_false]
          by_cases h2 : g.name = name
          · simp [h2]
          · simp only [h2, decide_false]
            exact ih
  · have h0 : dget fs f.name = none := by simpa using hs
    rw [if_neg hs]
    unfold dget at h0 ⊢
    rw [List.find?_append]
    by_cases hn : name = f.name
    · subst hn
      rw [h0, if_pos rfl]
      simp
    · rw [if_neg hn]
      have h1 : ¬ f.name = name := fun e => hn e.symm
      simp [h1]

/-- The data of a log's segments: the records, and behind the last ones the tail. -/
def Datas (nm : ByteArray) (D : DSt) (segs : List (List ByteArray)) (tl : ByteArray) : Prop :=
  ∀ n, n < 100 → (dget D.fs (seg nm n)).map (·.data) = segs[n]?.map fun rs => cat rs ++ (if n + 1 = segs.length then tl else ⟨#[]⟩)

theorem readS_ok {D : DSt} {nm dat : ByteArray} (h : readS D nm = (dat, 0)) : D.off = false ∧ (dget D.fs nm).map (·.data) = some dat := by
  unfold readS at h
  split at h
  · cases h
  · rename_i ho
    split at h
    · cases h
    · rename_i f hf
      cases h
      exact ⟨by simpa using ho, by rw [hf]; rfl⟩

theorem begin_on {D : DSt} {nm : ByteArray} (ho : D.off = false) (ha : ¬ (D.armed = true ∧ D.left = 0)) (hn : badName nm = false) : beginS D nm = (0, { D with left := max (D.left - 1) 0 }) := by
  unfold beginS
  rw [if_neg (by rw [ho]; decide), if_neg ha, hn, if_neg (by decide)]

theorem there_on {D : DSt} {nm : ByteArray} (ho : D.off = false) (ha : ¬ (D.armed = true ∧ D.left = 0)) (hn : badName nm = false) : thereS D nm = match dget D.fs nm with | none => (zfile, 10) | some f => (f, 0) := by
  unfold thereS
  rw [begin_on ho ha hn, if_pos rfl]
  cases dget D.fs nm <;> rfl

theorem cut_none {D : DSt} {nm : ByteArray} (k : Int) (ho : D.off = false) (ha : ¬ (D.armed = true ∧ D.left = 0)) (hn : badName nm = false) (h : dget D.fs nm = none) : (cutS D nm k).1 = 10 := by
  unfold cutS
  rw [there_on ho ha hn, h]
  rfl

theorem cut_some {D : DSt} {nm : ByteArray} {f : DFile} (k : Nat) (ho : D.off = false) (ha : ¬ (D.armed = true ∧ D.left = 0)) (hn : badName nm = false) (h : dget D.fs nm = some f) (hk : k ≤ f.data.size) :
    cutS D nm k = (0, { D with left := max (D.left - 1) 0, fs := dput D.fs ⟨nm, f.data.extract 0 k, k⟩ }) := by
  unfold cutS
  rw [there_on ho ha hn, h, begin_on ho ha hn]
  simp only [if_true]
  rw [if_neg (by omega), Int.toNat_natCast]

theorem flat_take {α : Type} {l : List (List α)} {n : Nat} {x : List α} (h : l[n]? = some x) : (l.take (n + 1)).flatten = (l.take n).flatten ++ x := by
  rw [List.take_add_one, h]
  simp

theorem seg_at {nm dat : ByteArray} {D : DSt} {segs : List (List ByteArray)} {tl : ByteArray} {n : Nat} (hd : Datas nm D segs tl) (hn : n < 100) (h : readS D (seg nm n) = (dat, 0)) :
    ∃ rs, segs[n]? = some rs ∧ dat = cat rs ++ (if n + 1 = segs.length then tl else ⟨#[]⟩) := by
  have h1 := (readS_ok h).2
  rw [hd n hn] at h1
  cases hs : segs[n]? with
  | none => rw [hs] at h1; cases h1
  | some rs =>
    rw [hs] at h1
    exact ⟨rs, rfl, (Option.some.inj h1).symm⟩

theorem tail_at {segs : List (List ByteArray)} {tl : ByteArray} {n : Nat} (h : Tail tl) : Tail (if n + 1 = segs.length then tl else ⟨#[]⟩) := by
  split
  · exact h
  · exact .inl rfl

/-- What log.Open has come to, over such files. -/
theorem opening_of {nm : ByteArray} {D : DSt} {segs : List (List ByteArray)} {tl : ByteArray} (hnm : nm.size ≤ 28) (hd : Datas nm D segs tl) (ho : D.off = false) (ha : D.armed = false) (hk : segs.length ≤ 90) (hs : ∀ rs ∈ segs, ∀ r ∈ rs, r.size ≤ 65535) (ht : Tail tl)
    {n : Nat} {D' : DSt} {L' : LSt} {all : List ByteArray} {t : Bool} (h : Opening D nm n D' L' all t) :
    (t = false ∧ D' = D ∧ n ≤ segs.length ∧ all = (segs.take n).flatten ∧ (n = 0 → L' = ⟨nm, -1, 0, 0, false⟩)) ∨
    (t = true ∧ n = segs.length ∧ 0 < n ∧ all = segs.flatten ∧ D'.off = false ∧ D'.armed = false ∧ dget D'.fs (seg nm n) = none) := by
  have step : ∀ {n : Nat} {dat : ByteArray} {recs : List ByteArray} {a : Nat}, n ≤ segs.length → readS D (seg nm n) = (dat, 0) → Run dat recs a → Stop dat a →
      n < segs.length ∧ segs[n]? = some recs ∧ a = (cat recs).size ∧ dat = cat recs ++ (if n + 1 = segs.length then tl else ⟨#[]⟩) := by
    intro n dat recs a hn hr hrun hst
    obtain ⟨rs, h1, h2⟩ := seg_at hd (by omega) hr
    have hlt := (List.getElem?_eq_some_iff.1 h1).1
    subst h2
    have hm : rs ∈ segs := List.mem_of_getElem? h1
    obtain ⟨rfl, rfl⟩ := hrun.stop hst (cat_run rs (fun r hr => hs rs hm r hr) _) (cat_stop rs _ (tail_at ht))
    exact ⟨hlt, h1, rfl, rfl⟩
  induction h with
  | start => exact .inl ⟨rfl, rfl, Nat.zero_le _, rfl, fun _ => rfl⟩
  | whole h hr hrun ih =>
    rcases ih with ⟨_, rfl, hn, rfl, _⟩ | ⟨hc, _⟩
    · obtain ⟨hlt, h1, _, _⟩ := step hn hr hrun (.inl (Nat.le_refl _))
      exact .inl ⟨rfl, rfl, hlt, (flat_take h1).symm, fun h => by omega⟩
    · cases hc
  | @torn n a D1 L all recs dat h hr hrun hst hlt0 hc ih =>
    rcases ih with ⟨_, rfl, hn, rfl, _⟩ | ⟨hc, _⟩
    · obtain ⟨hlt, h1, rfl, h3⟩ := step hn hr hrun hst
      have hlast : n + 1 = segs.length := by
        refine Classical.byContradiction fun hne => ?_
        rw [h3, if_neg hne, ba_nil] at hlt0
        omega
      have hf : ∃ f, dget D1.fs (seg nm n) = some f ∧ f.data = dat := by
        have := (readS_ok hr).2
        cases hg : dget D1.fs (seg nm n) with
        | none => rw [hg] at this; cases this
        | some f => rw [hg] at this; exact ⟨f, rfl, Option.some.inj this⟩
      obtain ⟨f, hf1, hf2⟩ := hf
      have hcut := cut_some (cat recs).size ho (fun h => by rw [ha] at h; cases h.1) (seg_fine (by omega) hnm) hf1 (by rw [hf2]; omega)
      rw [hcut]
      refine .inr ⟨rfl, hlast, by omega, ?_, ho, ha, ?_⟩
      · rw [← flat_take h1, hlast, List.take_length]
      · show dget (dput D1.fs ⟨seg nm n, f.data.extract 0 (cat recs).size, (cat recs).size⟩) (seg nm (n + 1)) = none
        rw [dget_put, if_neg (fun e => by have := seg_inj (n := n + 1) (m := n) (by omega) (by omega) e; omega)]
        have := hd (n + 1) (by omega)
        rw [List.getElem?_eq_none (by omega)] at this
        simpa using this
    · cases hc
  | tear h hc ih =>
    rcases ih with ⟨h0, _⟩ | ⟨_, hn, h0, _, ho', ha', hg⟩
    · cases h0
    · have := cut_none 0 ho' (fun h => by rw [ha'] at h; cases h.1) (seg_fine (by omega) hnm) hg
      rw [hc] at this
      cases this

theorem open_cap {nm : ByteArray} {D : DSt} {segs : List (List ByteArray)} {tl : ByteArray} (hnm : nm.size ≤ 28) (hd : Datas nm D segs tl) (ho : D.off = false) (ha : D.armed = false) (hk : segs.length ≤ 90) (hs : ∀ rs ∈ segs, ∀ r ∈ rs, r.size ≤ 65535) (ht : Tail tl) (hl : segs.flatten.length ≤ 400000)
    (n : Nat) (D' : DSt) (L' : LSt) (all : List ByteArray) (t : Bool) (h : Opening D nm n D' L' all t) : n < 100 ∧ all.length ≤ 400000 := by
  rcases opening_of hnm hd ho ha hk hs ht h with ⟨_, _, hn, rfl, _⟩ | ⟨_, hn, _, rfl, _⟩
  · refine ⟨by omega, ?_⟩
    have h1 := congrArg (fun l => (List.flatten l).length) (List.take_append_drop n segs)
    simp only [List.flatten_append, List.length_append] at h1
    omega
  · exact ⟨by omega, hl⟩

/-- How log.Open ends, over such files. -/
theorem openEnd_of {nm : ByteArray} {D : DSt} {segs : List (List ByteArray)} {tl : ByteArray} (hnm : nm.size ≤ 28) (hd : Datas nm D segs tl) (ho : D.off = false) (ha : D.armed = false) (hk : segs.length ≤ 90) (hs : ∀ rs ∈ segs, ∀ r ∈ rs, r.size ≤ 65535) (ht : Tail tl)
    {x : Int} {D' : DSt} {L' : LSt} {all : List ByteArray} (h : OpenEnd D nm x D' L' all) : x = 10 ∧ all = segs.flatten ∧ (segs = [] → D' = D ∧ L' = ⟨nm, -1, 0, 0, false⟩) := by
  cases h with
  | none h hne =>
    rename_i n
    rcases opening_of hnm hd ho ha hk hs ht h with ⟨_, hDD, hn, hall, hL⟩ | ⟨hc, _⟩
    · rw [hDD] at hne ⊢
      rw [hall]
      have hr := hd n (by omega)
      cases hg : dget D.fs (seg nm n) with
      | none =>
        rw [hg] at hr
        have h1 : segs[n]? = none := by simpa using hr.symm
        have h2 : n = segs.length := by have := List.getElem?_eq_none_iff.1 h1; omega
        refine ⟨?_, by rw [h2, List.take_length], fun h => ⟨rfl, hL (by rw [h2, h]; rfl)⟩⟩
        unfold readS
        rw [if_neg (by rw [ho]; decide), hg]
      | some f =>
        exfalso
        apply hne
        unfold readS
        rw [if_neg (by rw [ho]; decide), hg]
    · cases hc
  | @torn n a D0 L1 all recs dat h hr hrun hst hlt0 hc =>
    rcases opening_of hnm hd ho ha hk hs ht h with ⟨_, rfl, hn, rfl, _⟩ | ⟨hc, _⟩
    · exfalso
      apply hc
      have hf : ∃ f, dget D0.fs (seg nm n) = some f ∧ f.data = dat := by
        have := (readS_ok hr).2
        cases hg : dget D0.fs (seg nm n) with
        | none => rw [hg] at this; cases this
        | some f => rw [hg] at this; exact ⟨f, rfl, Option.some.inj this⟩
      obtain ⟨f, hf1, hf2⟩ := hf
      rw [cut_some a ho (fun h => by rw [ha] at h; cases h.1) (seg_fine (n := n) (by omega) hnm) hf1 (by rw [hf2]; omega)]
    · cases hc
  | tear h hne =>
    rcases opening_of hnm hd ho ha hk hs ht h with ⟨h0, _⟩ | ⟨_, hn, h0, rfl, ho', ha', hg⟩
    · cases h0
    · exact ⟨cut_none 0 ho' (fun h => by rw [ha'] at h; cases h.1) (seg_fine (by omega) hnm) hg, rfl, fun h => by rw [h] at hn; simp at hn; omega⟩

end Go.Proofs.YtdogmcpmlglkfaaDoor

namespace Go.Proofs.YtdogmcpmlglkfaaDoor
open Go.RowKit Go.Proofs.YtdogmcpmlglkfaaDoorW.PrintWords

/-- The files of a log: the records, safe; behind the last ones the tail, unsafe. -/
def Files (D : DSt) (segs : List (List ByteArray)) (tl : ByteArray) : Prop :=
  ∀ n, n < 100 → dget D.fs (seg room n) = segs[n]?.map fun rs => ⟨seg room n, cat rs ++ (if n + 1 = segs.length then tl else ⟨#[]⟩), (cat rs).size⟩

theorem Files.datas {D : DSt} {segs : List (List ByteArray)} {tl : ByteArray} (h : Files D segs tl) : Datas room D segs tl := fun n hn => by
  rw [h n hn]
  cases segs[n]? <;> rfl

/-- A log that stands over its disk; m appends at most have been. -/
structure LInv (m u : Nat) (D : DSt) (L : LSt) (segs : List (List ByteArray)) : Prop where
  nm : L.name = room
  last : L.last = (segs.length : Int) - 1
  size : ∀ rs, segs.getLast? = some rs → L.size = ((cat rs).size : Int)
  size0 : 0 ≤ L.size ∧ L.size ≤ (u : Int)
  broken : L.broken = false
  files : Files D segs ⟨#[]⟩
  use : used D.fs ≤ u
  off : D.off = false
  ok : DOk (2 * m) D
  small : ∀ rs ∈ segs, ∀ r ∈ rs, r.size ≤ 65535
  len : segs.flatten.length ≤ m
  lens : segs.length ≤ m
  cnt : 0 ≤ L.count ∧ L.count ≤ m

/-- A log whose disk went off in an append of rec: nothing of it is there, or all of it, unsafe. -/
structure LOff (m : Nat) (D : DSt) (segs : List (List ByteArray)) (rec : ByteArray) : Prop where
  off : D.off = true
  ok : DOk (2 * m) D
  files : ∃ segs2 tl, segs2.flatten = segs.flatten ∧ segs2.length ≤ segs.length + 1 ∧ (∀ rs ∈ segs2, ∀ r ∈ rs, r.size ≤ 65535) ∧ Files D segs2 tl ∧ (tl = ⟨#[]⟩ ∨ tl = sld rec)

theorem room_size : room.size = 4 := by decide +kernel

theorem LInv.lok {m u : Nat} {D : DSt} {L : LSt} {segs : List (List ByteArray)} (h : LInv m u D L segs) (hm : m ≤ 80) (hu : u ≤ 4194304) : LOk L := by
  have h1 := h.last
  have h2 := h.lens
  have h3 := h.size0
  have h4 := h.cnt
  exact ⟨by rw [h.nm, room_size]; omega, by omega, by omega, by omega⟩

theorem append_on {D : DSt} {nm data : ByteArray} (ho : D.off = false) (ha : ¬ (D.armed = true ∧ D.left = 0)) (hn : badName nm = false) (hu : (used D.fs : Int) + data.size ≤ D.room) :
    appendS D nm data = (0, { D with left := max (D.left - 1) 0, fs := dput D.fs ⟨nm, ((dget D.fs nm).getD zfile).data ++ data, ((dget D.fs nm).getD zfile).safe⟩ }) := by
  unfold appendS
  rw [begin_on ho ha hn, if_pos rfl]
  simp only
  rw [if_neg (by omega)]

theorem append_off {D : DSt} {nm data : ByteArray} (ho : D.off = false) (ha : D.armed = true ∧ D.left = 0) : appendS D nm data = (6, { D with off := true }) := by
  have hb : beginS D nm = (6, { D with off := true }) := by
    unfold beginS
    rw [if_neg (by rw [ho]; decide), if_pos ha]
  unfold appendS
  rw [hb, if_neg (show ¬ (6 : Int) = 0 by decide)]

theorem sync_on {D : DSt} {nm : ByteArray} {f : DFile} (ho : D.off = false) (ha : ¬ (D.armed = true ∧ D.left = 0)) (hn : badName nm = false) (hf : dget D.fs nm = some f) :
    syncS D nm = (0, { D with left := max (D.left - 1) 0, fs := dput D.fs ⟨nm, f.data, f.data.size⟩ }) := by
  unfold syncS
  rw [there_on ho ha hn, hf, begin_on ho ha hn]
  rfl

theorem sync_off {D : DSt} {nm : ByteArray} (ho : D.off = false) (ha : D.armed = true ∧ D.left = 0) : syncS D nm = (6, { D with off := true }) := by
  have hb : beginS D nm = (6, { D with off := true }) := by
    unfold beginS
    rw [if_neg (by rw [ho]; decide), if_pos ha]
  have ht : thereS D nm = (zfile, 6) := by
    unfold thereS
    rw [hb, if_neg (show ¬ (6 : Int) = 0 by decide)]
  unfold syncS
  rw [ht, hb, if_neg (show ¬ (6 : Int) = 0 by decide)]

/-- Where the next record goes: the segments behind it, as the segments ahead with the place n of it. -/
structure Next (segs : List (List ByteArray)) (rec : ByteArray) (n : Nat) (rs : List ByteArray) (segs2 segs' : List (List ByteArray)) : Prop where
  at2 : segs2[n]? = some rs
  len2 : n + 1 = segs2.length
  lenle : segs2.length ≤ segs.length + 1
  flat2 : segs2.flatten = segs.flatten
  flat : segs'.flatten = segs.flatten ++ [rec]
  len : segs'.length = segs2.length
  get : ∀ k, segs'[k]? = if k = n then some (rs ++ [rec]) else segs[k]?
  get2 : ∀ k, segs2[k]? = if k = n then some rs else segs[k]?
  mem : ∀ x ∈ segs2, x ∈ segs ∨ x = []
  mem' : ∀ x ∈ segs', x ∈ segs ∨ x = rs ++ [rec]
  old : segs[n]? = some rs ∨ (segs[n]? = none ∧ rs = [] ∧ n = segs.length)

theorem next_new (segs : List (List ByteArray)) (rec : ByteArray) : Next segs rec segs.length [] (segs ++ [[]]) (segs ++ [[rec]]) := by
  have hg : ∀ (x : List ByteArray) (k : Nat), (segs ++ [x])[k]? = if k = segs.length then some x else segs[k]? := by
    intro x k
    by_cases hk : k < segs.length
    · rw [List.getElem?_append_left hk, if_neg (by omega)]
    · rw [List.getElem?_append_right (by omega)]
      by_cases he : k = segs.length
      · rw [if_pos he, he, Nat.sub_self]; rfl
      · rw [if_neg he, List.getElem?_eq_none (by simp; omega), List.getElem?_eq_none (by omega)]
  exact ⟨by rw [hg, if_pos rfl], by simp, by simp, by simp, by simp, by simp, fun k => hg _ k, fun k => hg _ k, fun x hx => by simpa using hx, fun x hx => by simpa using hx, .inr ⟨by simp, rfl, rfl⟩⟩

theorem next_old (front : List (List ByteArray)) (rs : List ByteArray) (rec : ByteArray) : Next (front ++ [rs]) rec front.length rs (front ++ [rs]) (front ++ [rs ++ [rec]]) := by
  have hg : ∀ (x : List ByteArray) (k : Nat), (front ++ [x])[k]? = if k = front.length then some x else front[k]? := by
    intro x k
    by_cases hk : k < front.length
    · rw [List.getElem?_append_left hk, if_neg (by omega)]
    · rw [List.getElem?_append_right (by omega)]
      by_cases he : k = front.length
      · rw [if_pos he, he, Nat.sub_self]; rfl
      · rw [if_neg he, List.getElem?_eq_none (by simp; omega), List.getElem?_eq_none (by omega)]
  refine ⟨by rw [hg, if_pos rfl], by simp, by simp, rfl, by simp, by simp, fun k => ?_, fun k => ?_, fun x hx => .inl hx, fun x hx => ?_, .inl (by rw [hg, if_pos rfl])⟩
  · rw [hg, hg]
    split <;> rfl
  · rw [hg]
    split <;> rfl
  · rcases List.mem_append.1 hx with h | h
    · exact .inl (List.mem_append_left _ h)
    · exact .inr (by simpa using h)

theorem LInv.next {m u : Nat} {D : DSt} {L : LSt} {segs : List (List ByteArray)} (h : LInv m u D L segs) (rec : ByteArray) :
    ∃ n rs segs2 segs', Next segs rec n rs segs2 segs' ∧ nextSeg L = (n : Int) ∧ nextAt L = ((cat rs).size : Int) := by
  have hl := h.last
  by_cases hr : L.last < 0 ∨ 4096 ≤ L.size
  · refine ⟨_, _, _, _, next_new segs rec, ?_, ?_⟩
    · rw [nextSeg, if_pos hr]; omega
    · rw [nextAt, if_pos hr]; rfl
  · have hne : segs ≠ [] := by
      rintro rfl
      exact hr (.inl (by simp at hl; omega))
    obtain ⟨front, rs, rfl⟩ : ∃ front rs, segs = front ++ [rs] := ⟨_, _, (List.dropLast_concat_getLast hne).symm⟩
    refine ⟨_, _, _, _, next_old front rs rec, ?_, ?_⟩
    · rw [nextSeg, if_neg hr]; simp at hl; omega
    · rw [nextAt, if_neg hr]; exact h.size rs (by simp)

theorem getD_old {D : DSt} {segs segs2 segs' : List (List ByteArray)} {rec : ByteArray} {n : Nat} {rs : List ByteArray} (hf : Files D segs ⟨#[]⟩) (hn : n < 100) (h : Next segs rec n rs segs2 segs') :
    ((dget D.fs (seg room n)).getD zfile).data = cat rs ∧ ((dget D.fs (seg room n)).getD zfile).safe = (cat rs).size := by
  rw [hf n hn]
  rcases h.old with h1 | ⟨h1, rfl, _⟩
  · rw [h1]
    simp only [Option.map_some, Option.getD_some, ite_self, ba_nil]
    exact ⟨trivial, trivial⟩
  · rw [h1]
    exact ⟨rfl, rfl⟩

/-- The files behind an append that isn't safe yet. -/
theorem files_torn {D D' : DSt} {segs segs2 segs' : List (List ByteArray)} {rec : ByteArray} {n : Nat} {rs : List ByteArray} (hf : Files D segs ⟨#[]⟩) (hn : n < 100) (h : Next segs rec n rs segs2 segs')
    (hfs : D'.fs = dput D.fs ⟨seg room n, cat rs ++ sld rec, (cat rs).size⟩) : Files D' segs2 (sld rec) := fun k hk => by
  rw [hfs, dget_put, h.get2 k]
  by_cases he : k = n
  · subst he
    rw [if_pos rfl, if_pos rfl, Option.map_some, if_pos h.len2]
  · rw [if_neg (fun e => he (seg_inj hk hn e)), if_neg he, hf k hk, if_neg (show ¬ k + 1 = segs2.length by have := h.len2; omega)]
    simp only [ite_self]

theorem files_whole {D D' : DSt} {segs segs2 segs' : List (List ByteArray)} {rec : ByteArray} {n : Nat} {rs : List ByteArray} (hf : Files D segs ⟨#[]⟩) (hn : n < 100) (h : Next segs rec n rs segs2 segs')
    (hfs : D'.fs = dput (dput D.fs ⟨seg room n, cat rs ++ sld rec, (cat rs).size⟩) ⟨seg room n, cat rs ++ sld rec, (cat rs ++ sld rec).size⟩) : Files D' segs' ⟨#[]⟩ := fun k hk => by
  rw [hfs, dget_put, dget_put, h.get k]
  by_cases he : k = n
  · subst he
    rw [if_pos rfl, if_pos rfl, Option.map_some, cat_snoc]
    simp only [ite_self, ba_nil]
  · have hne : ¬ seg room k = seg room n := fun e => he (seg_inj hk hn e)
    rw [if_neg hne, if_neg hne, if_neg he, hf k hk]
    simp only [ite_self]

theorem getLast_at {α : Type} {l : List α} {n : Nat} (h : n + 1 = l.length) : l.getLast? = l[n]? := by
  rw [List.getLast?_eq_getElem?, show l.length - 1 = n by omega]

/-- An append, whole; or, of an armed disk, off. -/
theorem logApp_of {m u : Nat} {D : DSt} {L : LSt} {segs : List (List ByteArray)} {rec : ByteArray} (h : LInv m u D L segs) (hm : m ≤ 80) (hr : rec.size ≤ 65535) (hroom : ((u + (8 + rec.size) : Nat) : Int) ≤ D.room) :
    (∃ L' D' segs', logApp L D rec = (0, L', D') ∧ LInv (m + 1) (u + (8 + rec.size)) D' L' segs' ∧ segs'.flatten = segs.flatten ++ [rec] ∧ D'.armed = D.armed ∧ D'.room = D.room) ∨
    (D.armed = true ∧ ∃ L' D', logApp L D rec = (6, L', D') ∧ L'.name = room ∧ LOff (m + 1) D' segs rec) := by
  obtain ⟨n, rs, segs2, segs', hn, e1, e2⟩ := h.next rec
  have hn1 := hn.len2
  have hn2 := hn.lenle
  have hn3 := h.lens
  have hn9 : n < 100 := by omega
  have huse := h.use
  obtain ⟨g1, g2⟩ := getD_old h.files hn9 hn
  have hfine := seg_fine (nm := room) hn9 (by rw [room_size]; omega)
  have hsmall2 : ∀ rs ∈ segs2, ∀ r ∈ rs, r.size ≤ 65535 := fun x hx r hr => by
    rcases hn.mem x hx with h1 | rfl
    · exact h.small x h1 r hr
    · cases hr
  have hok1 : DOk (2 * m + 1) (appendS D (seg room n) (sld rec)).2 := h.ok.append _ _
  have hok2 : DOk (2 * m + 2) (syncS (appendS D (seg room n) (sld rec)).2 (seg room n)).2 := hok1.sync _
  by_cases ha : D.armed = true ∧ D.left = 0
  · refine .inr ⟨ha.1, ?_⟩
    have hap : appendS D (seg room n) (sld rec) = (6, { D with off := true }) := append_off h.off ha
    refine ⟨{ L with broken := true }, { D with off := true }, ?_, h.nm, rfl, ?_, segs, ⟨#[]⟩, rfl, by omega, h.small, h.files, .inl rfl⟩
    · unfold logApp
      rw [if_neg (by omega), if_neg (by rw [h.broken]; decide), e1, Int.toNat_natCast, h.nm, hap, if_neg (show ¬ (6 : Int) = 0 by decide)]
    · rw [hap] at hok1
      exact hok1.mono (by omega)
  · have hap := append_on (data := sld rec) h.off ha hfine (by rw [sld_size]; omega)
    rw [g1, g2] at hap
    obtain ⟨D1, hD1⟩ : ∃ D1 : DSt, D1 = { D with left := max (D.left - 1) 0, fs := dput D.fs ⟨seg room n, cat rs ++ sld rec, (cat rs).size⟩ } := ⟨_, rfl⟩
    rw [← hD1] at hap
    rw [hap] at hok1 hok2
    have o1 : D1.off = false := by rw [hD1]; exact h.off
    have a1 : D1.armed = D.armed := by rw [hD1]
    have f1 : D1.fs = dput D.fs ⟨seg room n, cat rs ++ sld rec, (cat rs).size⟩ := by rw [hD1]
    have r1 : D1.room = D.room := by rw [hD1]
    have fd1 : dget D1.fs (seg room n) = some ⟨seg room n, cat rs ++ sld rec, (cat rs).size⟩ := by rw [f1, dget_put, if_pos rfl]
    have u1 : used D1.fs + (cat rs).size = used D.fs + (cat rs ++ sld rec).size := by
      have := used_put D.fs h.ok.nodup ⟨seg room n, cat rs ++ sld rec, (cat rs).size⟩
      rw [f1]
      simp only [g1] at this
      exact this
    rw [ByteArray.size_append, sld_size] at u1
    clear hD1
    by_cases hb : D1.armed = true ∧ D1.left = 0
    · refine .inr ⟨a1 ▸ hb.1, ?_⟩
      have hsy : syncS D1 (seg room n) = (6, { D1 with off := true }) := sync_off o1 hb
      refine ⟨{ L with last := nextSeg L, size := nextAt L + (8 + rec.size), broken := true }, { D1 with off := true }, ?_, h.nm, rfl, ?_, segs2, sld rec, hn.flat2, by omega, hsmall2, files_torn h.files hn9 hn f1, .inr rfl⟩
      · unfold logApp
        rw [if_neg (by omega), if_neg (by rw [h.broken]; decide), e1, Int.toNat_natCast, h.nm, hap, if_pos rfl, hsy, if_neg (show ¬ (6 : Int) = 0 by decide)]
      · rw [hsy] at hok2
        exact hok2.mono (by omega)
    · have hsy := sync_on o1 hb hfine fd1
      obtain ⟨D2, hD2⟩ : ∃ D2 : DSt, D2 = { D1 with left := max (D1.left - 1) 0, fs := dput D1.fs ⟨seg room n, cat rs ++ sld rec, (cat rs ++ sld rec).size⟩ } := ⟨_, rfl⟩
      rw [← hD2] at hsy
      rw [hsy] at hok2
      have hnd : (D1.fs.map (·.name)).Nodup := hok1.nodup
      have f2 : D2.fs = dput D1.fs ⟨seg room n, cat rs ++ sld rec, (cat rs ++ sld rec).size⟩ := by rw [hD2]
      have u2 : used D2.fs = used D1.fs := by
        have := used_put D1.fs hnd ⟨seg room n, cat rs ++ sld rec, (cat rs ++ sld rec).size⟩
        simp only [fd1, Option.getD_some] at this
        rw [f2]
        omega
      have hat := hn.get n
      rw [if_pos rfl] at hat
      have hl' : n + 1 = segs'.length := by rw [hn.len]; exact hn1
      refine .inl ⟨{ L with last := nextSeg L, size := nextAt L + (8 + rec.size), count := L.count + 1 }, D2, segs', ?_, ?_, hn.flat, by rw [hD2]; exact a1, by rw [hD2]; exact r1⟩
      · unfold logApp
        rw [if_neg (by omega), if_neg (by rw [h.broken]; decide), e1, Int.toNat_natCast, h.nm, hap, if_pos rfl, hsy, if_pos rfl]
      · have hs0 := h.size0
        have hsz : nextAt L ≤ (u : Int) := by unfold nextAt; split <;> omega
        have hcnt := h.cnt
        refine ⟨h.nm, ?_, ?_, ?_, h.broken, files_whole h.files hn9 hn (by rw [f2, f1]), by rw [u2]; omega, by rw [hD2]; exact o1, hok2.mono (by omega), ?_, ?_, by omega, ?_⟩
        · show nextSeg L = _
          rw [e1]; omega
        · intro x hx
          rw [getLast_at hl', hat] at hx
          cases hx
          show nextAt L + (8 + (rec.size : Int)) = _
          rw [e2, cat_snoc, ByteArray.size_append, sld_size]
          omega
        · show 0 ≤ nextAt L + (8 + (rec.size : Int)) ∧ nextAt L + (8 + (rec.size : Int)) ≤ ((u + (8 + rec.size) : Nat) : Int)
          have : 0 ≤ nextAt L := by rw [e2]; omega
          omega
        · intro x hx r hxr
          rcases hn.mem' x hx with h1 | rfl
          · exact h.small x h1 r hxr
          · rcases List.mem_append.1 hxr with h2 | h2
            · rcases hn.old with h3 | ⟨_, h3, _⟩
              · exact h.small rs (List.mem_of_getElem? h3) r h2
              · rw [h3] at h2; cases h2
            · simp only [List.mem_singleton] at h2; rw [h2]; exact hr
        · rw [hn.flat, List.length_append]
          have := h.len
          simp only [List.length_cons, List.length_nil]
          omega
        · show 0 ≤ L.count + 1 ∧ L.count + 1 ≤ _
          omega

end Go.Proofs.YtdogmcpmlglkfaaDoor

namespace Go.Proofs.YtdogmcpmlglkfaaDoor
open Go.RowKit Go.Proofs.YtdogmcpmlglkfaaDoorW.PrintWords Go.Proofs.YtdogmcpmlglkfaaDoor.PRef

abbrev Act11 := S48

def small11 (l : List Act11) : Prop := l.length ≤ 40 ∧ ∀ x ∈ l, x.f1.size ≤ 1000 ∨ (65534 < x.f1.size ∧ x.f1.size ≤ 100000)

theorem rdA11_at {xs : List Act11} {i : Nat} (h : i < xs.length) : rd_T48 xs (i : Int) = xs[i] := by
  unfold rd_T48
  rw [show ((i : Int)).toNat = i by omega, List.getD_eq_getElem?_getD, List.getElem?_eq_getElem h]; rfl

theorem great11_ev (l : List Act11) : ∃ k r, palaverlaw11_great.f k l = some r ∧ (r = false → small11 l) := by
  by_cases hl : l.length ≤ 40
  · have key : ∀ d i, i ≤ l.length → l.length - i = d → (∀ j (hj : j < l.length), j < i → l[j].f1.size ≤ 1000 ∨ (65534 < l[j].f1.size ∧ l[j].f1.size ≤ 100000)) → ∃ r, Ev (fun k => palaverlaw11_great.l0 k l (i : Int)) r ∧ (r = false → small11 l) := by
      intro d
      induction d with
      | zero =>
        intro i hi hd hb
        refine ⟨false, Ev.step (f := fun _ => some false) (fun k => ?_) (Ev.now _), fun _ => ⟨hl, fun x hx => ?_⟩⟩
        · simp only [palaverlaw11_great.l0]; rw [if_neg (by omega)]
        · obtain ⟨j, hj, rfl⟩ := List.getElem_of_mem hx
          exact hb j hj (by omega)
      | succ d ih =>
        intro i hi hd hb
        have hlt : i < l.length := by omega
        have hgo : (l[i].f1.size ≤ 1000 ∨ (65534 < l[i].f1.size ∧ l[i].f1.size ≤ 100000)) → ∃ r, Ev (fun k => palaverlaw11_great.l0 k l ((i + 1 : Nat) : Int)) r ∧ (r = false → small11 l) := fun h => ih (i + 1) (by omega) (by omega) (fun j hj hji => by
          by_cases e : j = i
          · subst e; exact h
          · exact hb j hj (by omega))
        by_cases h1 : l[i].f1.size ≤ 1000
        · obtain ⟨r, e1, e2⟩ := hgo (.inl h1)
          refine ⟨r, Ev.step (fun k => ?_) e1, e2⟩
          simp only [palaverlaw11_great.l0]; rw [if_pos (by omega), if_pos (by omega), rdA11_at hlt, if_neg (by omega), if_neg (by omega), wrapS (by omega)]
        · by_cases h2 : l[i].f1.size ≤ 65534
          · refine ⟨true, Ev.step (f := fun _ => some true) (fun k => ?_) (Ev.now _), fun h => by cases h⟩
            simp only [palaverlaw11_great.l0]; rw [if_pos (by omega), if_pos (by omega), rdA11_at hlt, if_pos (by omega), if_pos (by omega)]
          · by_cases h3 : l[i].f1.size ≤ 100000
            · obtain ⟨r, e1, e2⟩ := hgo (.inr ⟨by omega, h3⟩)
              refine ⟨r, Ev.step (fun k => ?_) e1, e2⟩
              simp only [palaverlaw11_great.l0]; rw [if_pos (by omega), if_pos (by omega), rdA11_at hlt, if_pos (by omega), if_neg (by omega), if_neg (by omega), wrapS (by omega)]
            · refine ⟨true, Ev.step (f := fun _ => some true) (fun k => ?_) (Ev.now _), fun h => by cases h⟩
              simp only [palaverlaw11_great.l0]; rw [if_pos (by omega), if_pos (by omega), rdA11_at hlt, if_pos (by omega), if_neg (by omega), if_pos (by omega)]
    obtain ⟨r, h1, h2⟩ := key l.length 0 (Nat.zero_le _) rfl (fun j _ h => by omega)
    obtain ⟨k, hk⟩ := h1.rounds
    refine ⟨k, r, ?_, h2⟩
    unfold palaverlaw11_great.f
    rw [if_neg (by omega)]
    exact hk
  · refine ⟨0, true, ?_, fun h => by cases h⟩
    unfold palaverlaw11_great.f
    rw [if_pos (by omega)]

theorem great11_calls {w : World} {A : Option Addr} {c : Nat} {l : List Act11} (hr : Kd.C k48 w A l.length l) (hc : l.length ≤ c) :
    ∃ r : Bool, (r = false → small11 l) ∧ Calls Tryd.prog 17 #[.slice A l.length c] w fun e w' => e = .returned (.bool r) ∧ Drawn0 w w' := by
  obtain ⟨k, r, h1, h2⟩ := great11_ev l
  exact ⟨r, h2, palaverlaw11_great.calls k A c l r w hr hc h1⟩

/-! ### Same -/
def eqL (a b : List ByteArray) : Bool := decide (a = b)

theorem list_ev (a b : List ByteArray) (hl : a.length ≤ 1000000) : Ev (fun k => palaverref11_list.f k a b) (eqL a b) := by
  unfold palaverref11_list.f
  by_cases h : a.length = b.length
  · have key : ∀ d i, i ≤ a.length → a.length - i = d → (∀ j, j < i → a[j]? = b[j]?) → Ev (fun k => palaverref11_list.l0 k a b (i : Int)) (eqL a b) := by
      intro d
      induction d with
      | zero =>
        intro i hi hd hb
        refine Ev.step (f := fun _ => some true) (fun k => ?_) ?_
        · simp only [palaverref11_list.l0]; rw [if_neg (by omega)]
        · have : a = b := List.ext_getElem? fun j => by
            by_cases hj : j < i
            · exact hb j hj
            · rw [List.getElem?_eq_none (by omega), List.getElem?_eq_none (by omega)]
          rw [eqL, decide_eq_true this]
          exact Ev.now _
      | succ d ih =>
        intro i hi hd hb
        have hlt : i < a.length := by omega
        have hlb : i < b.length := by omega
        by_cases he : a[i] = b[i]
        · refine Ev.step (fun k => ?_) (ih (i + 1) (by omega) (by omega) fun j hj => ?_)
          · simp only [palaverref11_list.l0]; rw [if_pos (by omega), if_pos (by omega), if_pos (by omega), rdOf_at hlt, rdOf_at hlb, if_pos (by rw [he]), wrapS (by omega)]
          · by_cases e : j = i
            · subst e; rw [List.getElem?_eq_getElem hlt, List.getElem?_eq_getElem hlb, he]
            · exact hb j (by omega)
        · refine Ev.step (f := fun _ => some false) (fun k => ?_) ?_
          · simp only [palaverref11_list.l0]; rw [if_pos (by omega), if_pos (by omega), if_pos (by omega), rdOf_at hlt, rdOf_at hlb, if_neg (fun h => he ((toList_iff _ _).1 h))]
          · have : a ≠ b := by rintro rfl; exact he rfl
            rw [eqL, decide_eq_false this]
            exact Ev.now _
    simp only [show ((a.length : Int) = (b.length : Int)) = True from by simp [h], if_true]
    exact key a.length 0 (Nat.zero_le _) rfl (fun j h => by omega)
  · simp only [show ((a.length : Int) = (b.length : Int)) = False from by simp; omega, if_false]
    have : a ≠ b := by rintro rfl; exact h rfl
    rw [eqL, decide_eq_false this]
    exact Ev.now _

def sameB (S T : SSt) : Bool := decide (S.room = T.room ∧ S.used = T.used ∧ S.events = T.events ∧ S.queue = T.queue)

theorem sameB_self (S : SSt) : sameB S S = true := decide_eq_true ⟨rfl, rfl, rfl, rfl⟩

theorem sameB_eq {S T : SSt} (h : sameB S T = true) : S = T := by
  obtain ⟨h1, h2, h3, h4⟩ := of_decide_eq_true h
  cases S
  cases T
  simp only at h1 h2 h3 h4
  subst h1 h2 h3 h4
  rfl

theorem same_ev (S T : SSt) (h1 : S.events.length ≤ 1000000) (h2 : S.queue.length ≤ 1000000) : ∃ k, palaverref11_Same.f k S.room S.events S.used S.queue T.room T.events T.used T.queue = some (sameB S T) := by
  apply Ev.rounds
  unfold palaverref11_Same.f sameB
  by_cases hr : S.room = T.room
  · have hr' : S.room.toList = T.room.toList := by rw [hr]
    by_cases hu : S.used = T.used
    · simp only [hu, hr, if_true, true_and]
      by_cases he : S.events = T.events
      · refine Ev.bind (list_ev _ _ h1) ?_
        simp only [eqL, he, decide_true, if_true, true_and]
        exact Ev.bind (list_ev _ _ h2) (Ev.now _)
      · refine Ev.bind (list_ev _ _ h1) ?_
        simp only [eqL, he, decide_false, Bool.false_eq_true, if_false, false_and]
        exact Ev.now _
    · simp only [hr', hu, if_true, if_false, false_and, and_false, decide_false]
      exact Ev.now _
  · have hr' : ¬ S.room.toList = T.room.toList := fun h => hr ((toList_iff _ _).1 h)
    simp only [hr', hr, if_false, false_and, decide_false]
    exact Ev.now _

/-- A state as a value, that is read. -/
structure SVal (w : World) (v : Value) (S : SSt) : Prop where
  out : ∃ A c A2 c2, v = .agg #[.string S.room, .slice A S.events.length c, .int .i64 S.used, .slice A2 S.queue.length c2] ∧ S.events.length ≤ c ∧ S.queue.length ≤ c2 ∧ S.events.length ≤ 1000000 ∧ S.queue.length ≤ 1000000 ∧ Kd.C Kd.string w A S.events.length S.events ∧ Kd.C Kd.string w A2 S.queue.length S.queue

theorem SVal.below {w w' : World} {v : Value} {S : SSt} (h : SVal w v S) (hb : Below w.heap.size w w') : SVal w' v S := by
  obtain ⟨A, c, A2, c2, e, h1, h2, l1, l2, h3, h4⟩ := h
  exact ⟨A, c, A2, c2, e, h1, h2, l1, l2, Kd.C_below h3 hb, Kd.C_below h4 hb⟩

theorem same_any {w : World} {v u : Value} {S T : SSt} (h : SVal w v S) (k : SVal w u T) : Calls Tryd.prog 14 #[v, u] w fun e w' => e = .returned (.bool (sameB S T)) ∧ Below w.heap.size w w' := by
  obtain ⟨A, c, A2, c2, rfl, h1, h2, l1, l2, h3, h4⟩ := h
  obtain ⟨B, d, B2, d2, rfl, k1, k2, _, _, k3, k4⟩ := k
  obtain ⟨n, hn⟩ := same_ev S T l1 l2
  exact palaverref11_Same.calls n _ _ _ _ _ _ _ _ _ _ _ _ _ _ _ _ _ w h3 h1 h4 h2 k3 k1 k4 k2 hn

/-! ### Value -/
theorem wrap_small {x : Int} (h : -1000000 ≤ x ∧ x ≤ 1000000) : wrap64 x = x := by
  unfold wrap64
  omega

theorem two_bytes {s : ByteArray} (h : s.size = 2) : ∃ a b : UInt8, s = ⟨#[a, b]⟩ := by
  obtain ⟨⟨l⟩⟩ := s
  match l, h with
  | [a, b], _ => exact ⟨a, b, rfl⟩

theorem value_any {s : ByteArray} (h : s.size = 2) (w : World) : Calls Tryd.prog 32 #[.string s] w fun e w' => e = .returned (.int .i64 (num s)) ∧ Drawn0 w w' := by
  refine palaverref01_Value.calls 4 s (num s) w ?_
  obtain ⟨a, b, rfl⟩ := two_bytes h
  have ha : a.toNat < 256 := a.toNat_lt
  have hb : b.toNat < 256 := b.toNat_lt
  have e0 : bt (⟨#[a, b]⟩ : ByteArray) 0 = (a.toNat : Int) := rfl
  have e1 : bt (⟨#[a, b]⟩ : ByteArray) 1 = (b.toNat : Int) := rfl
  have hs : ((⟨#[a, b]⟩ : ByteArray).size : Int) = 2 := rfl
  have w1 : wrap64 ((0 : Int) + 1) = 1 := wrap_small (by omega)
  have w2 : wrap64 ((1 : Int) + 1) = 2 := wrap_small (by omega)
  have hv1 : wrap64 ((wrap64 (256 * 0)) + (wrap64 (a.toNat : Int))) = (a.toNat : Int) := by rw [wrap_small (x := 256 * 0) (by omega), wrap_small (x := (a.toNat : Int)) (by omega), wrap_small (by omega)]; omega
  have hv2 : wrap64 ((wrap64 (256 * (a.toNat : Int))) + (wrap64 (b.toNat : Int))) = (a.toNat : Int) * 256 + (b.toNat : Int) := by rw [wrap_small (x := 256 * (a.toNat : Int)) (by omega), wrap_small (x := (b.toNat : Int)) (by omega), wrap_small (by omega)]; omega
  have hn : num (⟨#[a, b]⟩ : ByteArray) = (a.toNat : Int) * 256 + (b.toNat : Int) := by show ((0 : Int) * 256 + (a.toNat : Int)) * 256 + (b.toNat : Int) = _; omega
  unfold palaverref01_Value.f
  simp only [palaverref01_Value.l0, hs, e0, e1, w1, w2, hv1, hv2, hn, show ((0 : Int) < 2) = True from by decide, show ((0 : Int) ≤ 0) = True from by decide, show ((1 : Int) < 2) = True from by decide, show ((0 : Int) ≤ 1) = True from by decide, show ((2 : Int) < 2) = False from by decide, if_true, if_false]

/-! ### Does -/
theorem number_ev (n : Int) : palaverref01_Number.f 8 n 2 = some (short n) := by
  have w1 : wrap64 ((0 : Int) + 1) = 1 := wrap_small (by omega)
  have w2 : wrap64 ((1 : Int) + 1) = 2 := wrap_small (by omega)
  have w3 : wrap64 ((256 : Int) * 1) = 256 := wrap_small (by omega)
  have w4 : wrap64 ((256 : Int) * 256) = 65536 := wrap_small (by omega)
  have t0 : ((0 : Int) < 2) = True := by decide
  have t1 : ((1 : Int) < 2) = True := by decide
  have t2 : ((2 : Int) < 2) = False := by decide
  unfold palaverref01_Number.f short
  by_cases h0 : n < 0
  · simp only [palaverref01_Number.l0, palaverref01_Number.j1, w1, w2, w3, w4, t0, t1, t2, h0, true_or, if_true, if_false]
  · by_cases h1 : 65536 ≤ n
    · simp only [palaverref01_Number.l0, palaverref01_Number.j1, w1, w2, w3, w4, t0, t1, t2, h0, h1, ge_iff_le, decide_true, or_true, if_true, if_false]
    · have e1 : Int.tmod n 256 % 256 = n % 256 := by rw [Int.tmod_eq_emod_of_nonneg (by omega)]; omega
      have e2 : wrap64 (Int.tdiv n 256) = n / 256 := by rw [Int.tdiv_eq_ediv_of_nonneg (by omega)]; exact wrap_small (by omega)
      have e3 : Int.tmod (n / 256) 256 % 256 = n / 256 := by rw [Int.tmod_eq_emod_of_nonneg (by omega)]; omega
      have e4 : (strOfNums [n % 256]).size = 1 := strOfNums_size _
      have e5 : (strOfNums [n / 256]).size = 1 := strOfNums_size _
      have e6 : strOfNums [n / 256] ++ (strOfNums [n % 256] ++ (⟨#[]⟩ : ByteArray)) = be2 n := by
        apply WideShapes.bytes_inj
        simp [be2, strOfNums]
      have c1 : ((strOfNums [n % 256]).size + (⟨#[]⟩ : ByteArray).size ≤ 9223372036854775807) = True := by rw [e4]; decide
      have c2 : ((strOfNums [n / 256]).size + (strOfNums [n % 256] ++ (⟨#[]⟩ : ByteArray)).size ≤ 9223372036854775807) = True := by rw [ByteArray.size_append, e4, e5]; decide
      simp only [palaverref01_Number.l0, palaverref01_Number.j1, palaverref01_Number.l1, w1, w2, w3, w4, t0, t1, t2, h0, h1, e1, e2, e3, c1, c2, e6, ge_iff_le, decide_false, Option.bind_some, or_self, if_true, if_false, Bool.false_eq_true]

/-- What an act of kind k says: its record, or its error. -/
def doesF (S : SSt) (k : Int) (t : ByteArray) (n : Int) : ByteArray × Int :=
  if k = 0 then (if noEnter S t = 0 then (⟨#[82]⟩ ++ t, 0) else (⟨#[]⟩, noEnter S t))
  else if k = 1 then (if noEvent t = 0 then (⟨#[69]⟩ ++ t, 0) else (⟨#[]⟩, noEvent t))
  else if k = 2 then (if noSpend S n (short n).2 = 0 then (⟨#[75]⟩ ++ (short n).1, 0) else (⟨#[]⟩, noSpend S n (short n).2))
  else if k = 3 then (if noQueue S t = 0 then (⟨#[81]⟩ ++ t, 0) else (⟨#[]⟩, noQueue S t))
  else (if noDone S = 0 then (⟨#[68]⟩, 0) else (⟨#[]⟩, noDone S))

theorem nil_toList (s : ByteArray) : s.toList = ([] : List UInt8) ↔ s.size = 0 := by
  constructor
  · exact fun h => toList_nil_size h
  · intro h
    rw [ByteArray.toList_eq]
    exact List.eq_nil_of_length_eq_zero (by rw [Array.length_toList]; exact h)

theorem does_ev (S : SSt) (k : Int) (t : ByteArray) (n : Int) (ht : t.size ≤ 1000000) : palaverref11_Does.f 8 S.room S.events S.used S.queue k t n = some (doesF S k t n) := by
  have h1 : (1 + t.size ≤ 9223372036854775807) = True := by simp only [eq_iff_iff, iff_true]; omega
  unfold palaverref11_Does.f doesF
  by_cases k0 : k = 0
  · simp only [k0, if_true, h1, noEnter]
    by_cases h32 : t.size = 32
    · have e32 : (((32 : Nat) : Int) = 32) = True := by simp
      simp only [h32, e32, if_true, nil_toList]
      by_cases hr : S.room.size = 0
      · simp only [hr, if_true]
      · simp only [hr, if_false]; rfl
    · have : ((t.size : Int) = 32) = False := by simp only [eq_iff_iff, iff_false]; omega
      simp only [this, h32, if_false]; rfl
  · simp only [k0, if_false]
    by_cases k1 : k = 1
    · simp only [k1, if_true, h1, noEvent]
      by_cases hs : 65535 ≤ t.size
      · have : ((t.size : Int) > 65534) = True := by simp only [eq_iff_iff, iff_true]; omega
        simp only [this, hs, if_true]; rfl
      · have : ((t.size : Int) > 65534) = False := by simp only [eq_iff_iff, iff_false]; omega
        simp only [this, hs, if_false, if_true]
    · simp only [k1, if_false]
      by_cases k2 : k = 2
      · simp only [k2, if_true, number_ev, Option.bind_some, noSpend]
        have hsz := short_size n
        have h2 : (1 + (short n).1.size ≤ 9223372036854775807) = True := by simp only [eq_iff_iff, iff_true]; omega
        cases hok : (short n).2 with
        | true =>
          by_cases hu : n ≤ S.used
          · have : decide (n ≤ S.used) = true := decide_eq_true hu
            have h3 : ¬ S.used < n := by omega
            simp only [palaverref11_Does.j0, this, h3, if_true, and_false, if_false]; rfl
          · have : decide (n ≤ S.used) = false := decide_eq_false hu
            have h3 : S.used < n := by omega
            simp only [palaverref11_Does.j0, this, h2, h3, if_true, and_self, Bool.false_eq_true, if_false]
        | false =>
          simp only [palaverref11_Does.j0, Bool.false_eq_true, false_and, if_false, if_true]; rfl
      · simp only [k2, if_false]
        by_cases k3 : k = 3
        · simp only [k3, if_true, h1, noQueue]
          by_cases hs : 200 < t.size
          · have : ((t.size : Int) > 200) = True := by simp only [eq_iff_iff, iff_true]; omega
            simp only [this, hs, if_true]; rfl
          · have : ((t.size : Int) > 200) = False := by simp only [eq_iff_iff, iff_false]; omega
            simp only [this, hs, if_false]
            by_cases hq : 4 ≤ S.queue.length
            · have : ((S.queue.length : Int) ≥ 4) = True := by simp only [eq_iff_iff, iff_true]; omega
              simp only [this, hq, if_true]; rfl
            · have : ((S.queue.length : Int) ≥ 4) = False := by simp only [eq_iff_iff, iff_false]; omega
              simp only [this, hq, if_false, if_true]
        · simp only [k3, if_false, noDone]
          by_cases hq : S.queue.length = 0
          · have : ((S.queue.length : Int) = 0) = True := by simp only [eq_iff_iff, iff_true]; omega
            simp only [hq, if_true]; rfl
          · have : ((S.queue.length : Int) = 0) = False := by simp only [eq_iff_iff, iff_false]; omega
            simp only [this, hq, if_false, if_true]

theorem does_any {w : World} {v : Value} {S : SSt} (k : Int) (t : ByteArray) (n : Int) (h : SVal w v S) (ht : t.size ≤ 1000000) :
    Calls Tryd.prog 18 #[v, .int .i64 k, .string t, .int .i64 n] w fun e w' => e = .returned (.tuple #[.string (doesF S k t n).1, .int .i64 (doesF S k t n).2]) ∧ Below w.heap.size w w' := by
  obtain ⟨A, c, A2, c2, rfl, h1, h2, l1, l2, h3, h4⟩ := h
  exact palaverref11_Does.calls 8 _ _ _ _ _ _ _ _ _ _ _ _ _ w h3 h1 h4 h2 (does_ev S k t n ht)

end Go.Proofs.YtdogmcpmlglkfaaDoor

namespace Go.Proofs.YtdogmcpmlglkfaaDoor
open Go.RowKit Go.Proofs.YtdogmcpmlglkfaaDoorW.PrintWords Go.Proofs.YtdogmcpmlglkfaaDoor.PRef

/-- Block g is a state of the reference. -/
structure RfAt (w : World) (B g : Nat) (S : SSt) (ev qu : Value) : Prop where
  blk : w.heap[g]? = some (.cells #[.string S.room, ev, .int .i64 S.used, qu] 35)
  evs : QOwn w B 9 ev S.events
  qus : QOwn w B 9 qu S.queue
  apart : ∀ k, ev.ownBlock = some k → qu.ownBlock ≠ some k
  base : B ≤ g

theorem RfAt.lt {w : World} {B g : Nat} {S : SSt} {ev qu : Value} (h : RfAt w B g S ev qu) : g < w.heap.size := (Array.getElem?_eq_some_iff.1 h.blk).1

theorem RfAt.ne_ev {w : World} {B g : Nat} {S : SSt} {ev qu : Value} (h : RfAt w B g S ev qu) : ev.ownBlock ≠ some g := fun e => by
  obtain ⟨c, hc⟩ := h.evs.kind e
  rw [h.blk] at hc
  simp only [Option.some.injEq, Obj.cells.injEq] at hc
  exact absurd hc.2.1 (by decide)
theorem RfAt.ne_qu {w : World} {B g : Nat} {S : SSt} {ev qu : Value} (h : RfAt w B g S ev qu) : qu.ownBlock ≠ some g := fun e => by
  obtain ⟨c, hc⟩ := h.qus.kind e
  rw [h.blk] at hc
  simp only [Option.some.injEq, Obj.cells.injEq] at hc
  exact absurd hc.2.1 (by decide)

theorem RfAt.below {w w' : World} {B g : Nat} {S : SSt} {ev qu : Value} (h : RfAt w B g S ev qu) (hb : Below w.heap.size w w') : RfAt w' B g S ev qu :=
  ⟨(hb.block g h.lt).trans h.blk, h.evs.below hb, h.qus.below hb, h.apart, h.base⟩

theorem RfAt.drewN {w : World} {B g : Nat} {S : SSt} {ev qu : Value} (h : RfAt w B g S ev qu) (n : Nat) : RfAt (w.drewN n) B g S ev qu :=
  ⟨h.blk, h.evs.move fun _ _ => rfl, h.qus.move fun _ _ => rfl, h.apart, h.base⟩

theorem RfAt.set {w : World} {B g : Nat} {S S' : SSt} {ev qu : Value} (h : RfAt w B g S ev qu) (j : Nat) (v : Value) (he : S'.events = S.events) (hq : S'.queue = S.queue)
    (hs : #[.string S.room, ev, .int .i64 S.used, qu].setIfInBounds j v = #[.string S'.room, ev, .int .i64 S'.used, qu]) : RfAt (w.setCell ⟨g, j, none⟩ v) B g S' ev qu := by
  refine ⟨by rw [← hs]; exact setCell_row _ h.blk, ?_, ?_, h.apart, h.base⟩
  · rw [he]; exact h.evs.move fun k hk => Below.heap_setCell _ _ _ _ (fun e => h.ne_ev (by rw [hk]; exact congrArg some e))
  · rw [hq]; exact h.qus.move fun k hk => Below.heap_setCell _ _ _ _ (fun e => h.ne_qu (by rw [hk]; exact congrArg some e))

theorem RfAt.setEv {w w8 : World} {B g : Nat} {S : SSt} {ev qu v' : Value} {o : Obj} {y : ByteArray} (h : RfAt w B g S ev qu) (hq : QOwn w8 B 9 v' (S.events ++ [y])) (hg : (w.alloc o).grownBy w8 ev.ownBlock)
    (hat : v'.ownBlock = ev.ownBlock ∨ v'.ownBlock = some (w.alloc o).heap.size) : RfAt (w8.setCell ⟨g, 1, none⟩ v') B g { S with events := S.events ++ [y] } v' qu := by
  have hgl := h.lt
  have hb : ∀ k, k < w.heap.size → some k ≠ ev.ownBlock → w8.heap[k]? = w.heap[k]? := fun k hk hn => (hg.block k (by rw [asz]; omega) hn).trans (Below.heap_alloc _ _ _ hk)
  have hblk : w8.heap[g]? = some (.cells #[.string S.room, ev, .int .i64 S.used, qu] 35) := (hb g hgl (fun e => h.ne_ev e.symm)).trans h.blk
  have hvg : v'.ownBlock ≠ some g := by
    rcases hat with e | e <;> rw [e]
    · exact h.ne_ev
    · rw [asz]; simp only [ne_eq, Option.some.injEq]; omega
  refine ⟨setCell_row _ hblk, ?_, ?_, ?_, h.base⟩
  · exact hq.move fun k hk => Below.heap_setCell _ _ _ _ (fun e => hvg (by rw [hk]; exact congrArg some e))
  · refine h.qus.move fun k hk => (Below.heap_setCell _ _ _ _ (fun e => h.ne_qu (by rw [hk]; exact congrArg some e))).trans (hb k (h.qus.lt hk).2 (fun e => h.apart k e.symm hk))
  · intro k hk
    rcases hat with e | e
    · exact h.apart k (e ▸ hk)
    · intro hq2
      have := (h.qus.lt hq2).2
      rw [e, asz] at hk
      simp only [Option.some.injEq] at hk
      omega

theorem RfAt.setQu {w w8 : World} {B g : Nat} {S : SSt} {ev qu v' : Value} {o : Obj} {y : ByteArray} (h : RfAt w B g S ev qu) (hq : QOwn w8 B 9 v' (S.queue ++ [y])) (hg : (w.alloc o).grownBy w8 qu.ownBlock)
    (hat : v'.ownBlock = qu.ownBlock ∨ v'.ownBlock = some (w.alloc o).heap.size) : RfAt (w8.setCell ⟨g, 3, none⟩ v') B g { S with queue := S.queue ++ [y] } ev v' := by
  have hgl := h.lt
  have hb : ∀ k, k < w.heap.size → some k ≠ qu.ownBlock → w8.heap[k]? = w.heap[k]? := fun k hk hn => (hg.block k (by rw [asz]; omega) hn).trans (Below.heap_alloc _ _ _ hk)
  have hblk : w8.heap[g]? = some (.cells #[.string S.room, ev, .int .i64 S.used, qu] 35) := (hb g hgl (fun e => h.ne_qu e.symm)).trans h.blk
  have hvg : v'.ownBlock ≠ some g := by
    rcases hat with e | e <;> rw [e]
    · exact h.ne_qu
    · rw [asz]; simp only [ne_eq, Option.some.injEq]; omega
  refine ⟨setCell_row _ hblk, ?_, ?_, ?_, h.base⟩
  · refine h.evs.move fun k hk => (Below.heap_setCell _ _ _ _ (fun e => h.ne_ev (by rw [hk]; exact congrArg some e))).trans (hb k (h.evs.lt hk).2 (fun e => h.apart k hk e.symm))
  · exact hq.move fun k hk => Below.heap_setCell _ _ _ _ (fun e => hvg (by rw [hk]; exact congrArg some e))
  · intro k hk hk2
    rcases hat with e | e
    · exact h.apart k hk (e ▸ hk2)
    · have := (h.evs.lt hk).2
      rw [e, asz] at hk2
      simp only [Option.some.injEq] at hk2
      omega

theorem RfAt.dropQu {w : World} {B g n c : Nat} {S : SSt} {ev : Value} {A : Option Addr} {y : ByteArray} {ys : List ByteArray} (h : RfAt w B g S ev (.slice A n c)) (hq : S.queue = y :: ys) :
    RfAt (w.setCell ⟨g, 3, none⟩ (sliced A 1 n c 1)) B g { S with queue := ys } ev (sliced A 1 n c 1) := by
  refine ⟨setCell_row _ h.blk, ?_, ?_, ?_, h.base⟩
  · exact h.evs.move fun k hk => Below.heap_setCell _ _ _ _ (fun e => h.ne_ev (by rw [hk]; exact congrArg some e))
  · have h1 := h.qus
    rw [hq] at h1
    exact h1.tail.move fun k hk => Below.heap_setCell _ _ _ _ (fun e => h.ne_qu (by rw [← sliced_own, hk]; exact congrArg some e))
  · intro k hk
    rw [sliced_own]
    exact h.apart k hk

theorem ret_rst {fn : Func} {p u : Tmp} (h : fn.results = #[.cell p 35, .tmp u]) {a : Act} {w : World} {R : Ending → World → Prop} (g : Nat) (x y z t : Value) (e : Value) (hp : a.tmps.getD p undef = .pointer (some ⟨g, 0, none⟩)) (hu : a.tmps.getD u undef = e)
    (hg : w.heap[g]? = some (.cells #[x, y, z, t] 35)) (hd : a.defers = []) (hR : R (.returned (.tuple #[.agg #[x, y, z, t], e])) w) : bodyPost Tryd.prog fn R .ret a w := by
  refine bodyPost_ret (v := .tuple #[.agg #[x, y, z, t], e]) ?_ hd hR
  rw [results_cell_tmp h, hp, hu]
  have hld : (loadVar 35 ⟨g, 0, none⟩).run Tryd.prog w = .ok (.agg #[x, y, z, t]) w := run_loadVar_row w g _ _ _ _ _ hg Tryd.underlying35 rfl (by kernel_rfl)
  simp [asAddr, Result.andThen, hld]

theorem sval_zero (w : World) : SVal w (.agg #[.string ⟨#[]⟩, .slice none 0 0, .int .i64 0, .slice none 0 0]) s0 :=
  ⟨⟨none, 0, none, 0, rfl, Nat.le_refl _, Nat.le_refl _, Nat.zero_le _, Nat.zero_le _, ⟨rfl, by simp [s0], fun h => absurd h (Nat.lt_irrefl _)⟩, ⟨rfl, by simp [s0], fun h => absurd h (Nat.lt_irrefl _)⟩⟩⟩

/-- The rows of a state's value lie at B or behind. -/
def SFar (B : Nat) (v : Value) : Prop := ∀ x A n c y A2 n2 c2, v = .agg #[x, .slice A n c, y, .slice A2 n2 c2] → (∀ ad, A = some ad → B ≤ ad.block) ∧ (∀ ad, A2 = some ad → B ≤ ad.block)

theorem SFar.mk {B : Nat} {x y : Value} {A A2 : Option Addr} {n c n2 c2 : Nat} (h1 : ∀ ad, A = some ad → B ≤ ad.block) (h2 : ∀ ad, A2 = some ad → B ≤ ad.block) : SFar B (.agg #[x, .slice A n c, y, .slice A2 n2 c2]) := by
  intro x' A' n' c' y' A2' n2' c2' e
  simp only [Value.agg.injEq, Array.mk.injEq, List.cons.injEq, Value.slice.injEq, and_true] at e
  obtain ⟨_, ⟨rfl, _, _⟩, _, ⟨rfl, _, _⟩⟩ := e
  exact ⟨h1, h2⟩

theorem sfar_zero (B : Nat) : SFar B (.agg #[.string ⟨#[]⟩, .slice none 0 0, .int .i64 0, .slice none 0 0]) := SFar.mk (fun _ e => by cases e) (fun _ e => by cases e)

/-- The four cells of a result, set. -/
theorem set4_below {H : Nat} {w w' : World} (h : Below H w w') (a b c d : Value) : Below H w ((((w'.setCell ⟨H, 0, none⟩ a).setCell ⟨H, 1, none⟩ b).setCell ⟨H, 2, none⟩ c).setCell ⟨H, 3, none⟩ d) :=
  (((h.setCell (p := ⟨H, 0, none⟩) (Nat.le_refl _) _).setCell (p := ⟨H, 1, none⟩) (Nat.le_refl _) _).setCell (p := ⟨H, 2, none⟩) (Nat.le_refl _) _).setCell (p := ⟨H, 3, none⟩) (Nat.le_refl _) _

theorem QOwn.set4 {w : World} {H B : Nat} {e : TypeId} {v : Value} {xs : List ByteArray} (h : QOwn w B e v xs) (hB : H < B) (a b c d : Value) : QOwn ((((w.setCell ⟨H, 0, none⟩ a).setCell ⟨H, 1, none⟩ b).setCell ⟨H, 2, none⟩ c).setCell ⟨H, 3, none⟩ d) B e v xs :=
  h.move fun k hk => by
    have hk1 := (h.lt hk).1
    have hne : k ≠ H := by omega
    rw [Below.heap_setCell _ _ _ _ hne, Below.heap_setCell _ _ _ _ hne, Below.heap_setCell _ _ _ _ hne, Below.heap_setCell _ _ _ _ hne]

/-- The state of records; of none: the first one. -/
def ofS (recs : List ByteArray) : SSt := (takesL s0 recs).getD s0

set_option maxHeartbeats 4000000 in
set_option maxRecDepth 100000 in
theorem of_any {w : World} {A : Option Addr} {c : Nat} {recs : List ByteArray} (hr : Kd.C Kd.string w A recs.length recs) (_hc : recs.length ≤ c) (hl : recs.length ≤ 1000) :
    Calls Tryd.prog 13 #[.slice A recs.length c] w fun e w' => ∃ v, e = .returned (.tuple #[v, .bool (takesL s0 recs).isSome]) ∧ SVal w' v (ofS recs) ∧ SFar w.heap.size v ∧ Below w.heap.size w w' := by
  have HR := Lib.hid hr
  clear hr
  go_enter Tryd.func13, Tryd.ntmps13
  go_upto_region 2 with fail
  obtain ⟨H, hH⟩ : ∃ H, H = w.heap.size := ⟨_, rfl⟩
  rw [← hH]
  obtain ⟨w0, hw0⟩ : ∃ w0, w0 = (w.alloc (.cells #[.string ⟨#[]⟩, .slice none 0 0, .int .i64 0, .slice none 0 0] 35)).alloc (.cells #[.string ⟨#[]⟩, .slice none 0 0, .int .i64 0, .slice none 0 0] 35) := ⟨_, rfl⟩
  rw [← hw0]
  have hz0 : w0.heap[H]? = some (.cells #[.string ⟨#[]⟩, .slice none 0 0, .int .i64 0, .slice none 0 0] 35) := by rw [hw0, hH, Below.heap_alloc _ _ _ (by rw [asz]; omega)]; exact heap_alloc_new _ _
  have hz1 : w0.heap[H + 1]? = some (.cells #[.string ⟨#[]⟩, .slice none 0 0, .int .i64 0, .slice none 0 0] 35) := by rw [hw0, hH, show w.heap.size + 1 = (w.alloc (.cells #[.string ⟨#[]⟩, .slice none 0 0, .int .i64 0, .slice none 0 0] 35)).heap.size by rw [asz]]; exact heap_alloc_new _ _
  have HB0 := Lib.hid (show Below H w w0 by rw [hw0]; exact ((Below.refl _ _).alloc (Nat.le_of_eq hH) _).alloc (by rw [asz]; omega) _)
  have HZ0 := Lib.hid hz0
  have HF0 := Lib.hid (show RfAt w0 (H + 1) (H + 1) s0 (.slice none 0 0) (.slice none 0 0) from ⟨hz1, QOwn.nil _ _ _, QOwn.nil _ _ _, (fun k hk => by cases hk), Nat.le_refl _⟩)
  have hH1 : H + 1 < w0.heap.size := (Array.getElem?_eq_some_iff.1 hz1).1
  have HH := Lib.hid hH
  clear hw0 hz0 hz1 hH
  go_wp2_with fail
  go_loopw [5] (fun iv wr => ∃ (i : Nat) (S : SSt) (ev qu : Value), iv = .int .i64 i ∧ i ≤ recs.length ∧ takesL s0 (recs.take i) = some S ∧ RfAt wr (H + 1) (H + 1) S ev qu ∧ Below (H + 1) w0 wr) (fun iv _ => recs.length - (intOf iv).toNat)
  case atStart => exact ⟨0, s0, _, _, rfl, Nat.zero_le _, rfl, HF0.out, Below.refl _ _⟩
  case round =>
    obtain ⟨i, S, ev, qu, rfl, hi, hS, hst, hbr⟩ := hrel
    have hslen := takesL_len hS
    rw [List.length_take] at hslen
    have HS := Lib.hid hS
    have HST := Lib.hid hst
    have HBR := Lib.hid hbr
    have HBW := Lib.hid (HB0.out.trans (hbr.mono (Nat.le_succ H)))
    have hsz : S.events.length ≤ 1000 ∧ S.queue.length ≤ 1000 := by simp only [s0, List.length_nil] at hslen; omega
    have hz := (hbr.block H (Nat.lt_succ_self H)).trans HZ0.out
    have HZ := Lib.hid hz
    by_cases hlt : i < recs.length
    · obtain ⟨ad, rfl, hcell⟩ := at_str (Kd.C_below HR.out (by rw [← HH.out]; exact HBW.out)) hlt
      have hnext : takesL s0 (recs.take (i + 1)) = if (takesF S recs[i]).2 = true then some (takesF S recs[i]).1 else none := by
        rw [List.take_add_one, List.getElem?_eq_getElem hlt, Option.toList_some, takesL_append, hS]
        show takesL S [recs[i]] = _
        rw [takesL, takesL]
      have hbad : (takesF S recs[i]).2 = false → takesL s0 recs = none := fun h => by
        have h1 := hnext.trans (if_neg (by rw [h]; decide))
        rw [← List.take_append_drop (i + 1) recs, takesL_append, h1]
        rfl
      obtain ⟨rec, hrec⟩ : ∃ rec, rec = recs[i] := ⟨_, rfl⟩
      rw [← hrec] at hcell hnext hbad
      obtain ⟨d0, d1, d2, d3, df⟩ := box4f hst.blk
      obtain ⟨z0, z1, z2, z3, zf⟩ := box4f hz
      have df0 := df 0
      have df1 := df 1
      have df2 := df 2
      have df3 := df 3
      have zf0 := zf 0
      have zf1 := zf 1
      have zf2 := zf 2
      have zf3 := zf 3
      have HN := Lib.hid hnext
      have HBAD := Lib.hid hbad
      clear hst hbr hS df zf hrec hnext hbad hz hslen
      by_cases hr0 : rec.size = 0
      · have hd : rec.data[0]? = none := Array.getElem?_eq_none (show rec.data.size ≤ 0 by show rec.size ≤ 0; omega)
        have hF : takesF S rec = (S, false) := by unfold takesF; rw [hd]
        have HNO := Lib.hid (HBAD.out (by rw [hF]))
        have hr1 : ((rec.size : Int) == 0) = true := by rw [hr0]; rfl
        clear hd hF
        go_wp2_with fail
        (try simp only [Exit.inBlock, Exit.then])
        exact ret_rst rfl H _ _ _ _ _ rfl rfl (setCell_row _ (setCell_row _ (setCell_row _ (setCell_row _ HZ.out)))) rfl ⟨_, by rw [HNO.out]; rfl, by rw [ofS, HNO.out]; exact sval_zero _, sfar_zero _, by rw [← HH.out]; exact set4_below HBW.out _ _ _ _⟩
      · obtain ⟨k, hk⟩ : ∃ k, rec.data[0]? = some k := ⟨_, Array.getElem?_eq_getElem (show 0 < rec.data.size by show 0 < rec.size; omega)⟩
        have hr1 : ((rec.size : Int) == 0) = false := by rw [beq_eq_false_iff_ne]; omega
        have hr3 : 0 < rec.size := by omega
        have hk0 : rec[0] = k := Option.some.inj ((Array.getElem?_eq_getElem (xs := rec.data) (i := 0) hr3).symm.trans hk)
        obtain ⟨rt, hrt⟩ : ∃ rt, rt = rest1 rec := ⟨_, rfl⟩
        have hrt2 : rec.extract 1 rec.size = rest1 rec := rfl
        obtain ⟨n, hn⟩ : ∃ n : Int, n = (k.toNat : Int) := ⟨_, rfl⟩
        obtain ⟨F, hF⟩ : ∃ F, F = takesF S rec := ⟨_, rfl⟩
        have HN1 := Lib.hid (show takesL s0 (recs.take (i + 1)) = if F.2 = true then some F.1 else none by rw [hF]; exact HN.out)
        have HBAD1 := Lib.hid (show F.2 = false → takesL s0 recs = none by rw [hF]; exact HBAD.out)
        unfold takesF at hF
        rw [hk] at hF
        simp only at hF
        rw [← hrt] at hF
        have e1 : k.toNat = 82 ↔ n = 82 := by omega
        have e2 : k.toNat = 69 ↔ n = 69 := by omega
        have e3 : k.toNat = 75 ↔ n = 75 := by omega
        have e4 : k.toNat = 81 ↔ n = 81 := by omega
        have e5 : k.toNat = 68 ↔ n = 68 := by omega
        simp only [e1, e2, e3, e4, e5] at hF
        clear hk e1 e2 e3 e4 e5 HN HBAD
        go_upto_region 7 with fail
        go_quiet (fail)
        rw [← hn, ← hrt]
        obtain ⟨wy, hwy⟩ : ∃ wy, wy = wr.drewN nq := ⟨_, rfl⟩
        have HSY := Lib.hid (show RfAt wy (H + 1) (H + 1) S ev qu by rw [hwy]; exact HST.out.drewN nq)
        have HZY := Lib.hid (show wy.heap[H]? = some (.cells #[.string ⟨#[]⟩, .slice none 0 0, .int .i64 0, .slice none 0 0] 35) by rw [hwy]; exact HZ.out)
        have HBY := Lib.hid (show Below (H + 1) w0 wy by rw [hwy]; exact HBR.out.trans ⟨rfl, rfl, rfl, Nat.le_refl _, fun _ _ => rfl⟩)
        have HBWY := Lib.hid (HB0.out.trans (HBY.out.mono (Nat.le_succ H)))
        rw [← hwy]
        clear hwy hk0 hn hrt hrt2 hr1 hr3 hr0 d0 d1 d2 d3 z0 z1 z2 z3 df0 df1 df2 df3 zf0 zf1 zf2 zf3 hcell
        obtain ⟨d0, d1, d2, d3, df⟩ := box4f HSY.out.blk
        obtain ⟨z0, z1, z2, z3, zf⟩ := box4f HZY.out
        have df0 := df 0
        have df1 := df 1
        have df2 := df 2
        have df3 := df 3
        have zf0 := zf 0
        have zf1 := zf 1
        have zf2 := zf 2
        have zf3 := zf 3
        have hgl := HSY.out.lt
        clear df zf
        by_cases h82 : n = 82
        · subst h82
          rw [if_pos rfl] at hF
          subst hF
          by_cases h32 : rt.size = 32
          · have hb : ((rt.size : Int) == 32) = true := by rw [h32]; rfl
            go_wp2_with fail
            exact ⟨⟨i + 1, _, ev, qu, by go_num, by omega, HN1.out.trans (if_pos (decide_eq_true h32)), HSY.out.set 0 _ rfl rfl rfl, HBY.out.setCell (p := ⟨H + 1, 0, none⟩) (Nat.le_refl _) _⟩, by simp [intOf]; omega⟩
          · have hb : ((rt.size : Int) == 32) = false := by rw [beq_eq_false_iff_ne]; omega
            have HNO := Lib.hid (HBAD1.out (decide_eq_false h32))
            go_wp2_with fail
            (try simp only [Exit.inBlock, Exit.then])
            exact ret_rst rfl H _ _ _ _ _ rfl rfl (setCell_row _ (setCell_row _ (setCell_row _ (setCell_row _ HZY.out)))) rfl ⟨_, by rw [HNO.out]; rfl, by rw [ofS, HNO.out]; exact sval_zero _, sfar_zero _, by rw [← HH.out]; exact set4_below HBWY.out _ _ _ _⟩
        · rw [if_neg h82] at hF
          by_cases h69 : n = 69
          · subst h69
            rw [if_pos rfl] at hF
            subst hF
            obtain ⟨A, c, rfl, hac⟩ := HSY.out.evs.slice
            obtain ⟨i0, hii0, hz0, hz1, hz2⟩ := info_parts info_str
            go_wp2_with (at_builtin; refine wpList_append_q _ rfl (.tmp 47) (.tmp 49) 22 rfl (H + 1) 9 i0 Tryd.underlying22 hii0 hz0 hz1 hz2 (.slice A S.events.length c) S.events rt rfl (HSY.out.evs.below ((Below.refl _ _).alloc (Nat.le_refl _) _)) ⟨wy.heap.size, 0, none⟩ 1 rfl (by rw [World.cell?, heap_alloc_new]; rfl) (by omega) (by rw [asz]; omega) ?_; intro v' w8 hq8 hg8 hat8; obtain ⟨A8, c8, rfl, hac8⟩ := hq8.slice; rw [List.length_append] at hq8 hat8; have HQ8 := Lib.hid hq8; have HG8 := Lib.hid hg8; have HAT8 := Lib.hid hat8; have c18 : w8.cell? ⟨H + 1, 1, none⟩ = some (.slice A S.events.length c) := (World.cell?_of_block ((hg8.block (H + 1) (by rw [asz]; omega) (fun e => HSY.out.ne_ev e.symm)).trans (Below.heap_alloc _ _ _ hgl))).trans d1; have cf18 : w8.frozen? ⟨H + 1, 1, none⟩ = false := (World.frozen?_of_block ((hg8.block (H + 1) (by rw [asz]; omega) (fun e => HSY.out.ne_ev e.symm)).trans (Below.heap_alloc _ _ _ hgl))).trans df1; clear hq8 hg8 hat8)
            exact ⟨⟨i + 1, _, _, _, by go_num, by omega, HN1.out.trans (if_pos rfl), HSY.out.setEv HQ8.out HG8.out HAT8.out, HBY.out.trans (below_set8 (Nat.le_refl _) hgl HG8.out (fun k hk => (HSY.out.evs.lt hk).1) _)⟩, by simp [intOf]; omega⟩
          · rw [if_neg h69] at hF
            by_cases h75 : n = 75
            · subst h75
              rw [if_pos rfl] at hF
              by_cases h2 : rt.size = 2
              · have hb : ((rt.size : Int) == 2) = true := by rw [h2]; rfl
                have htk : tk rt false 2 = (rt, ⟨#[]⟩, false) := by
                  have := tk_append rt (⟨#[]⟩ : ByteArray) 2 (by rw [h2]; rfl)
                  rwa [ba_nil] at this
                rw [htk] at hF
                have HV := Lib.hid (fun W => value_any h2 W)
                obtain ⟨m, hm⟩ : ∃ m, m = num rt := ⟨_, rfl⟩
                rw [← hm] at HV hF
                have HN2 := Lib.hid (show takesL s0 (recs.take (i + 1)) = some { S with used := max S.used m } by rw [HN1.out, hF]; exact if_pos rfl)
                clear htk hF hm HN1 HBAD1
                go_upto_region 14 with fail
                have hbx := (Below.refl wy.heap.size wy).drew
                go_region_with (go_at_call 32; refine (HV.out _).mono ?_; rintro e w5 ⟨rfl, hd5⟩; have hb5 : Below wy.heap.size wy w5 := hbx.trans (Drawn0.below hd5); have c25 := (hb5.cell (World.block_lt_of_cell? _ _ d2)).trans d2)
                all_goals
                  have HB5 := Lib.hid hb5
                  clear hb5 c25
                  have HS5 := Lib.hid (HSY.out.below HB5.out)
                  obtain ⟨d0, d1, d2, d3, df⟩ := box4f HS5.out.blk
                  have df2 := df 2
                  clear df
                  by_cases hgt : S.used < m
                  · go_wp2_with (go_at_call 32; refine (HV.out _).mono ?_; rintro e w6 ⟨rfl, hd6⟩; have hb6 : Below w5.heap.size w5 w6 := Drawn0.below hd6; have d26 := (hb6.cell (World.block_lt_of_cell? _ _ d2)).trans d2; have df26 := (World.frozen?_of_block (a := ⟨H + 1, 2, none⟩) (hb6.block (H + 1) (World.block_lt_of_cell? _ _ d2))).trans df2; have HB6 := Lib.hid hb6; clear hb6)
                    exact ⟨⟨i + 1, _, ev, qu, by go_num, by omega, HN2.out, (HS5.out.below HB6.out).set 2 _ rfl rfl (by rw [show max S.used m = m by omega]; rfl), (HBY.out.trans ((HB5.out.mono (by omega)).trans (HB6.out.mono (by have := HB5.out.size; omega)))).setCell (p := ⟨H + 1, 2, none⟩) (Nat.le_refl _) _⟩, by simp [intOf]; omega⟩
                  · go_wp2_with fail
                    exact ⟨⟨i + 1, _, ev, qu, by go_num, by omega, HN2.out, by rw [show max S.used m = S.used by omega]; exact HS5.out, HBY.out.trans (HB5.out.mono (by omega))⟩, by simp [intOf]; omega⟩
              · have hb : ((rt.size : Int) == 2) = false := by rw [beq_eq_false_iff_ne]; omega
                have hf : F.2 = false := by
                  rw [hF]
                  unfold tk
                  split
                  · rfl
                  · rename_i hc
                    simp only [Bool.not_false, Bool.true_and, decide_eq_false_iff_not, ByteArray.size_extract]
                    simp only [Bool.false_eq_true, false_or, not_or] at hc
                    omega
                have HNO := Lib.hid (HBAD1.out hf)
                clear hf hF
                go_wp2_with fail
                (try simp only [Exit.inBlock, Exit.then])
                exact ret_rst rfl H _ _ _ _ _ rfl rfl (setCell_row _ (setCell_row _ (setCell_row _ (setCell_row _ HZY.out)))) rfl ⟨_, by rw [HNO.out]; rfl, by rw [ofS, HNO.out]; exact sval_zero _, sfar_zero _, by rw [← HH.out]; exact set4_below HBWY.out _ _ _ _⟩
            · rw [if_neg h75] at hF
              by_cases h81 : n = 81
              · subst h81
                rw [if_pos rfl] at hF
                subst hF
                obtain ⟨A, c, rfl, hac⟩ := HSY.out.qus.slice
                obtain ⟨i0, hii0, hz0, hz1, hz2⟩ := info_parts info_str
                go_wp2_with (at_builtin; refine wpList_append_q _ rfl (.tmp 72) (.tmp 74) 22 rfl (H + 1) 9 i0 Tryd.underlying22 hii0 hz0 hz1 hz2 (.slice A S.queue.length c) S.queue rt rfl (HSY.out.qus.below ((Below.refl _ _).alloc (Nat.le_refl _) _)) ⟨wy.heap.size, 0, none⟩ 1 rfl (by rw [World.cell?, heap_alloc_new]; rfl) (by omega) (by rw [asz]; omega) ?_; intro v' w8 hq8 hg8 hat8; obtain ⟨A8, c8, rfl, hac8⟩ := hq8.slice; rw [List.length_append] at hq8 hat8; have HQ8 := Lib.hid hq8; have HG8 := Lib.hid hg8; have HAT8 := Lib.hid hat8; have c38 : w8.cell? ⟨H + 1, 3, none⟩ = some (.slice A S.queue.length c) := (World.cell?_of_block ((hg8.block (H + 1) (by rw [asz]; omega) (fun e => HSY.out.ne_qu e.symm)).trans (Below.heap_alloc _ _ _ hgl))).trans d3; have cf38 : w8.frozen? ⟨H + 1, 3, none⟩ = false := (World.frozen?_of_block ((hg8.block (H + 1) (by rw [asz]; omega) (fun e => HSY.out.ne_qu e.symm)).trans (Below.heap_alloc _ _ _ hgl))).trans df3; clear hq8 hg8 hat8)
                exact ⟨⟨i + 1, _, _, _, by go_num, by omega, HN1.out.trans (if_pos rfl), HSY.out.setQu HQ8.out HG8.out HAT8.out, HBY.out.trans (below_set8 (Nat.le_refl _) hgl HG8.out (fun k hk => (HSY.out.qus.lt hk).1) _)⟩, by simp [intOf]; omega⟩
              · rw [if_neg h81] at hF
                by_cases h68 : n = 68
                · subst h68
                  rw [if_pos rfl] at hF
                  obtain ⟨A, c, rfl, hac⟩ := HSY.out.qus.slice
                  by_cases hz : rt.size = 0
                  · have hb : ((rt.size : Int) == 0) = true := by rw [hz]; rfl
                    cases hq : S.queue with
                    | nil =>
                      rw [if_pos (.inr hq)] at hF
                      subst hF
                      have HNO := Lib.hid (HBAD1.out rfl)
                      rw [hq] at d3
                      go_wp2_with fail
                      (try simp only [Exit.inBlock, Exit.then])
                      exact ret_rst rfl H _ _ _ _ _ rfl rfl (setCell_row _ (setCell_row _ (setCell_row _ (setCell_row _ HZY.out)))) rfl ⟨_, by rw [HNO.out]; rfl, by rw [ofS, HNO.out]; exact sval_zero _, sfar_zero _, by rw [← HH.out]; exact set4_below HBWY.out _ _ _ _⟩
                    | cons y ys =>
                      rw [if_neg (by rintro (h | h); exact h hz; rw [hq] at h; cases h)] at hF
                      subst hF
                      have hst := HSY.out.dropQu hq
                      have HF := Lib.hid hst
                      have HN2 := Lib.hid (show takesL s0 (recs.take (i + 1)) = some { S with queue := ys } by rw [HN1.out, hq]; exact if_pos rfl)
                      rw [hq] at d3 hac HF
                      clear hst HN1
                      have HB3 := Lib.hid (fun v => HBY.out.setCell (p := ⟨H + 1, 3, none⟩) (Nat.le_refl _) v)
                      by_cases hc1 : c = 1
                      · subst hc1
                        go_wp2_with fail
                        exact ⟨⟨i + 1, _, ev, _, by go_num, by omega, HN2.out, HF.out, HB3.out _⟩, by simp [intOf]; omega⟩
                      · rw [sliced, if_neg hc1] at HF
                        go_wp2_with fail
                        exact ⟨⟨i + 1, _, ev, _, by go_num, by omega, HN2.out, HF.out, HB3.out _⟩, by simp [intOf]; omega⟩
                  · have hb : ((rt.size : Int) == 0) = false := by rw [beq_eq_false_iff_ne]; omega
                    rw [if_pos (.inl hz)] at hF
                    subst hF
                    have HNO := Lib.hid (HBAD1.out rfl)
                    go_wp2_with fail
                    (try simp only [Exit.inBlock, Exit.then])
                    exact ret_rst rfl H _ _ _ _ _ rfl rfl (setCell_row _ (setCell_row _ (setCell_row _ (setCell_row _ HZY.out)))) rfl ⟨_, by rw [HNO.out]; rfl, by rw [ofS, HNO.out]; exact sval_zero _, sfar_zero _, by rw [← HH.out]; exact set4_below HBWY.out _ _ _ _⟩
                · rw [if_neg h68] at hF
                  subst hF
                  have HNO := Lib.hid (HBAD1.out rfl)
                  go_wp2_with fail
                  (try simp only [Exit.inBlock, Exit.then])
                  exact ret_rst rfl H _ _ _ _ _ rfl rfl (setCell_row _ (setCell_row _ (setCell_row _ (setCell_row _ HZY.out)))) rfl ⟨_, by rw [HNO.out]; rfl, by rw [ofS, HNO.out]; exact sval_zero _, sfar_zero _, by rw [← HH.out]; exact set4_below HBWY.out _ _ _ _⟩
    · have hie : i = recs.length := by omega
      have hS2 : takesL s0 recs = some S := by
        have := HS.out
        rwa [hie, List.take_length] at this
      have HS2 := Lib.hid hS2
      obtain ⟨d0, d1, d2, d3, df⟩ := box4f hst.blk
      obtain ⟨z0, z1, z2, z3, zf⟩ := box4f hz
      have zf0 := zf 0
      have zf1 := zf 1
      have zf2 := zf 2
      have zf3 := zf 3
      obtain ⟨A1, c1, rfl, _⟩ := hst.evs.slice
      obtain ⟨A2, c2, rfl, _⟩ := hst.qus.slice
      clear hst hbr hS hS2 df zf hz hslen
      go_wp2_with fail
      (try simp only [Exit.inBlock, Exit.then])
      refine ret_rst rfl H _ _ _ _ _ rfl rfl (setCell_row _ (setCell_row _ (setCell_row _ (setCell_row _ HZ.out)))) rfl ⟨_, by rw [HS2.out]; rfl, ?_, ?_, by rw [← HH.out]; exact set4_below HBW.out _ _ _ _⟩
      rotate_left
      · rw [← HH.out]
        exact SFar.mk (fun ad e => by subst e; exact Nat.le_trans (Nat.le_succ H) (HST.out.evs.lt rfl).1) (fun ad e => by subst e; exact Nat.le_trans (Nat.le_succ H) (HST.out.qus.lt rfl).1)
      rw [ofS, HS2.out, Option.getD_some]
      obtain ⟨A3, c3, e3, h3, r3⟩ := (HST.out.evs.set4 (Nat.lt_succ_self H) _ _ _ _).read (by omega)
      obtain ⟨A4, c4, e4, h4, r4⟩ := (HST.out.qus.set4 (Nat.lt_succ_self H) _ _ _ _).read (by omega)
      cases e3
      cases e4
      exact ⟨⟨_, _, _, _, rfl, h3, h4, by omega, by omega, r3, r4⟩⟩

end Go.Proofs.YtdogmcpmlglkfaaDoor

namespace Go.Proofs.YtdogmcpmlglkfaaDoor
open Go.RowKit Go.Proofs.YtdogmcpmlglkfaaDoorW.PrintWords Go.Proofs.YtdogmcpmlglkfaaDoor.PRef

/-- Block g is a store over the disk in p; its records are recs. -/
structure St11 (w : World) (C g q p r : Nat) (F : Nat → Prop) (m u : Nat) (D : DSt) (L : LSt) (segs : List (List ByteArray)) (S : SSt) (recs : List ByteArray) : Prop where
  st : StRepF w C g q S F
  log : LogRep w q p L
  dsk : DRep w p r D
  inv : LInv m u D L segs
  flat : segs.flatten = recs
  tak : takesL s0 recs = some S
  hq : q < C
  hp : p < C
  hr : r < C

def Store11 (w : World) (C g q p r : Nat) (F : Nat → Prop) (m u : Nat) (rm : Int) (recs : List ByteArray) : Prop := ∃ D L segs S, St11 w C g q p r F m u D L segs S recs ∧ D.armed = false ∧ D.room = rm

theorem St11.ofS {w : World} {C g q p r m u : Nat} {F : Nat → Prop} {D : DSt} {L : LSt} {segs : List (List ByteArray)} {S : SSt} {recs : List ByteArray} (h : St11 w C g q p r F m u D L segs S recs) : S = Go.Proofs.YtdogmcpmlglkfaaDoor.ofS recs := by
  rw [Go.Proofs.YtdogmcpmlglkfaaDoor.ofS, h.tak]
  rfl

theorem St11.lens {w : World} {C g q p r m u : Nat} {F : Nat → Prop} {D : DSt} {L : LSt} {segs : List (List ByteArray)} {S : SSt} {recs : List ByteArray} (h : St11 w C g q p r F m u D L segs S recs) : S.events.length ≤ m ∧ S.queue.length ≤ m := by
  have h1 := takesL_len h.tak
  have h2 := h.inv.len
  rw [h.flat] at h2
  simp only [s0, List.length_nil] at h1
  omega

theorem St11.below {w w' : World} {C g q p r m u : Nat} {F : Nat → Prop} {D : DSt} {L : LSt} {segs : List (List ByteArray)} {S : SSt} {recs : List ByteArray} (h : St11 w C g q p r F m u D L segs S recs) (hb : Below w.heap.size w w') : St11 w' C g q p r F m u D L segs S recs :=
  ⟨h.st.below hb, h.log.below hb, h.dsk.below hb, h.inv, h.flat, h.tak, h.hq, h.hp, h.hr⟩

theorem Store11.below {w w' : World} {C g q p r m u : Nat} {F : Nat → Prop} {rm : Int} {recs : List ByteArray} (h : Store11 w C g q p r F m u rm recs) (hb : Below w.heap.size w w') : Store11 w' C g q p r F m u rm recs := by
  obtain ⟨D, L, segs, S, h, h1, h2⟩ := h
  exact ⟨D, L, segs, S, h.below hb, h1, h2⟩

/-- What was laid. -/
theorem St11.lay {w w' : World} {e : Ending} {C g q p r m u : Nat} {F : Nat → Prop} {D : DSt} {L : LSt} {segs : List (List ByteArray)} {S : SSt} {recs : List ByteArray} {no : Int} {rec : ByteArray} (h : St11 w C g q p r F m u D L segs S recs) (ha : D.armed = false) (hm : m ≤ 80)
    (hp : LayPost C g q p r F no S L D rec w e w') (hg : no = 0 → (takesF S rec).2 = true ∧ rec.size ≤ 65535 ∧ ((u + (8 + rec.size) : Nat) : Int) ≤ D.room) :
    e = .returned (.int .i64 no) ∧ (∃ F', Store11 w' C g q p r F' (m + 1) (if no = 0 then u + (8 + rec.size) else u) D.room (if no = 0 then recs ++ [rec] else recs) ∧ ∀ b, b < w.heap.size → F' b → F b) ∧ SFr F p r q w w' := by
  obtain ⟨p1, ⟨F', p2, p6⟩, p3, p4, p5⟩ := hp
  by_cases hn : no = 0
  · subst hn
    obtain ⟨g1, g2, g3⟩ := hg rfl
    rcases logApp_of h.inv hm g2 g3 with ⟨L', D', segs', e1, e2, e3, e4, e5⟩ | ⟨hc, _⟩
    · rw [layF_ok S e1] at p1 p2 p3 p4
      refine ⟨p1, ⟨F', ⟨D', L', segs', _, ⟨p2, p3, p4, ?_, ?_, ?_, h.hq, h.hp, h.hr⟩, e4.trans ha, e5⟩, p6⟩, p5⟩
      · rw [if_pos rfl]; exact e2
      · rw [if_pos rfl, e3, h.flat]
      · rw [if_pos rfl, takesL_append, h.tak]
        show takesL S [rec] = _
        rw [takesL, if_pos g1]
        rfl
    · rw [ha] at hc; cases hc
  · rw [layF_no S L D rec hn] at p1 p2 p3 p4
    refine ⟨p1, ⟨F', ⟨D, L, segs, S, ⟨p2, p3, p4, ?_, ?_, ?_, h.hq, h.hp, h.hr⟩, ha, rfl⟩, p6⟩, p5⟩
    · rw [if_neg hn]
      have i := h.inv
      exact ⟨i.nm, i.last, i.size, i.size0, i.broken, i.files, i.use, i.off, i.ok.mono (by omega), i.small, by have := i.len; omega, by have := i.lens; omega, by have := i.cnt; omega⟩
    · rw [if_neg hn]; exact h.flat
    · rw [if_neg hn]; exact h.tak

/-! ### acts -/
def noK (S : SSt) (k : Int) (t : ByteArray) (n : Int) : Int := if k = 0 then noEnter S t else if k = 1 then noEvent t else if k = 2 then noSpend S n (short n).2 else if k = 3 then noQueue S t else noDone S
def recK (k : Int) (t : ByteArray) (n : Int) : ByteArray := if k = 0 then ⟨#[82]⟩ ++ t else if k = 1 then ⟨#[69]⟩ ++ t else if k = 2 then ⟨#[75]⟩ ++ (short n).1 else if k = 3 then ⟨#[81]⟩ ++ t else ⟨#[68]⟩

theorem doesF_eq (S : SSt) (k : Int) (t : ByteArray) (n : Int) : doesF S k t n = if noK S k t n = 0 then (recK k t n, 0) else (⟨#[]⟩, noK S k t n) := by
  unfold doesF noK recK
  by_cases k0 : k = 0
  · simp only [k0, if_true]
  · by_cases k1 : k = 1
    · simp only [k1, if_true]; rfl
    · by_cases k2 : k = 2
      · simp only [k2, if_true]; rfl
      · by_cases k3 : k = 3
        · simp only [k3, if_true]; rfl
        · simp only [k0, k1, k2, k3, if_false]

theorem rest1_cons (c : UInt8) (t : ByteArray) : rest1 (⟨#[c]⟩ ++ t) = t := extract_right ⟨#[c]⟩ t

theorem head_cons (c : UInt8) (t : ByteArray) : (⟨#[c]⟩ ++ t : ByteArray).data[0]? = some c := by
  rw [ByteArray.data_append, Array.getElem?_append_left (by simp)]
  rfl

theorem takesF_rec {S : SSt} {k : Int} {t : ByteArray} {n : Int} (h : noK S k t n = 0) : (takesF S (recK k t n)).2 = true := by
  unfold noK at h
  unfold recK
  by_cases k0 : k = 0
  · simp only [k0, if_true] at h ⊢
    unfold takesF
    rw [head_cons, rest1_cons]
    unfold noEnter at h
    by_cases h32 : t.size = 32
    · simp [h32]
    · rw [if_neg h32] at h; cases h
  · simp only [k0, if_false] at h ⊢
    by_cases k1 : k = 1
    · simp only [k1, if_true] at h ⊢
      unfold takesF
      rw [head_cons, rest1_cons]
      rfl
    · simp only [k1, if_false] at h ⊢
      by_cases k2 : k = 2
      · simp only [k2, if_true] at h ⊢
        unfold takesF
        rw [head_cons, rest1_cons]
        unfold noSpend at h
        have hs : (short n).1.size = 2 := by
          unfold short at h ⊢
          split
          · rename_i hc; rw [if_pos hc] at h; simp at h
          · exact be2_size n
        have htk := tk_append (short n).1 (⟨#[]⟩ : ByteArray) 2 (by rw [hs]; rfl)
        rw [ba_nil] at htk
        rw [htk]
        rfl
      · simp only [k2, if_false] at h ⊢
        by_cases k3 : k = 3
        · simp only [k3, if_true] at h ⊢
          unfold takesF
          rw [head_cons, rest1_cons]
          rfl
        · simp only [k3, if_false] at h ⊢
          unfold noDone at h
          have hq : S.queue ≠ [] := by
            intro hq
            rw [hq] at h
            simp at h
          unfold takesF
          have h0 : (⟨#[68]⟩ : ByteArray).data[0]? = some 68 := rfl
          have h1 : (rest1 ⟨#[68]⟩).size = 0 := rfl
          rw [h0]
          simp [h1, hq]

theorem recK_size {S : SSt} {k : Int} {t : ByteArray} {n : Int} (h : noK S k t n = 0) (ht : t.size ≤ 1000 ∨ (65534 < t.size ∧ t.size ≤ 100000)) : (recK k t n).size ≤ 1001 := by
  have hc : ∀ (c : UInt8) (s : ByteArray), (⟨#[c]⟩ ++ s : ByteArray).size = 1 + s.size := fun c s => by rw [ByteArray.size_append]; rfl
  unfold noK at h
  unfold recK
  by_cases k0 : k = 0
  · simp only [k0, if_true] at h ⊢
    unfold noEnter at h
    by_cases h32 : t.size = 32
    · rw [hc]; omega
    · rw [if_neg h32] at h; cases h
  · simp only [k0, if_false] at h ⊢
    by_cases k1 : k = 1
    · simp only [k1, if_true] at h ⊢
      unfold noEvent at h
      by_cases hb : 65535 ≤ t.size
      · rw [if_pos hb] at h; cases h
      · rw [hc]; omega
    · simp only [k1, if_false] at h ⊢
      by_cases k2 : k = 2
      · simp only [k2, if_true] at h ⊢
        have := short_size n
        rw [hc]; omega
      · simp only [k2, if_false] at h ⊢
        by_cases k3 : k = 3
        · simp only [k3, if_true] at h ⊢
          unfold noQueue at h
          by_cases hb : 200 < t.size
          · rw [if_pos hb] at h; cases h
          · rw [hc]; omega
        · simp only [k3, if_false]
          exact of_decide_eq_true rfl

theorem ba_size (w : World) (v : Array Value) (t : TypeId) : Below w.heap.size w (w.alloc (.cells v t)) := (Below.refl _ _).alloc (Nat.le_refl _) _

set_option maxHeartbeats 1000000 in
set_option maxRecDepth 100000 in
theorem do11_lay {w : World} {C g q p r m : Nat} {F : Nat → Prop} {S : SSt} {L : LSt} {D : DSt} (k : Int) (t : ByteArray) (n : Int) (ht : t.size ≤ 1000000) (h : StRepF w C g q S F) (hl : LogRep w q p L) (hd : DRep w p r D) (hL : LOk L) (hD : DOk m D) (hq : q < C) (hp : p < C) (hr : r < C) (hsz : S.events.length ≤ 1000000 ∧ S.queue.length ≤ 1000000) :
    Calls Tryd.prog 19 #[.pointer (some ⟨g, 0, none⟩), .agg #[.int .i64 k, .string t, .int .i64 n]] w fun e w' => LayPost C g q p r F (noK S k t n) S L D (recK k t n) w e w' := by
  have HB := Lib.hid (ba_size w #[.int .i64 k, .string t, .int .i64 n] 48)
  obtain ⟨c0, c1, c2⟩ := box3 (heap_alloc_new w (.cells #[.int .i64 k, .string t, .int .i64 n] 48))
  have HS := Lib.hid (h.below HB.out)
  have HL := Lib.hid (hl.below HB.out)
  have HD := Lib.hid (hd.below HB.out)
  clear h hl hd
  unfold noK recK
  by_cases k0 : k = 0
  · subst k0
    simp only [if_true]
    have HC := Lib.hid (enter_any t ht HS.out HL.out HD.out hL hD hq hp hr hsz)
    go_enter Tryd.func19, Tryd.ntmps19
    go_wp2_with (go_at_call 36; refine HC.out.mono ?_; rintro e w2 hp2; have HP2 := Lib.hid hp2; obtain ⟨he, hp2⟩ := hp2; subst he; clear hp2)
    go_ret
    exact HP2.out.from HB.out
  · simp only [k0, if_false]
    by_cases k1 : k = 1
    · subst k1
      simp only [if_true]
      have HC := Lib.hid (event_any t ht HS.out HL.out HD.out hL hD hq hp hr hsz)
      go_enter Tryd.func19, Tryd.ntmps19
      go_wp2_with (go_at_call 37; refine HC.out.mono ?_; rintro e w2 hp2; have HP2 := Lib.hid hp2; obtain ⟨he, hp2⟩ := hp2; subst he; clear hp2)
      go_ret
      exact HP2.out.from HB.out
    · simp only [k1, if_false]
      by_cases k2 : k = 2
      · subst k2
        simp only [if_true]
        have HC := Lib.hid (spend_any n HS.out HL.out HD.out hL hD hq hp hr hsz)
        go_enter Tryd.func19, Tryd.ntmps19
        go_wp2_with (go_at_call 38; refine HC.out.mono ?_; rintro e w2 hp2; have HP2 := Lib.hid hp2; obtain ⟨he, hp2⟩ := hp2; subst he; clear hp2)
        go_ret
        exact HP2.out.from HB.out
      · simp only [k2, if_false]
        by_cases k3 : k = 3
        · subst k3
          simp only [if_true]
          have HC := Lib.hid (queue_any t ht HS.out HL.out HD.out hL hD hq hp hr hsz)
          go_enter Tryd.func19, Tryd.ntmps19
          go_wp2_with (go_at_call 22; refine HC.out.mono ?_; rintro e w2 hp2; have HP2 := Lib.hid hp2; obtain ⟨he, hp2⟩ := hp2; subst he; clear hp2)
          go_ret
          exact HP2.out.from HB.out
        · simp only [k3, if_false]
          have HC := Lib.hid (done_any HS.out HL.out HD.out hL hD hq hp hr hsz)
          go_enter Tryd.func19, Tryd.ntmps19
          go_wp2_with (go_at_call 23; refine HC.out.mono ?_; rintro e w2 hp2; have HP2 := Lib.hid hp2; obtain ⟨he, hp2⟩ := hp2; subst he; clear hp2)
          go_ret
          exact HP2.out.from HB.out

set_option maxRecDepth 100000 in
theorem do11_nil (k : Int) (t : ByteArray) (n : Int) (ht : t.size ≤ 1000000) (w : World) :
    Calls Tryd.prog 19 #[.pointer none, .agg #[.int .i64 k, .string t, .int .i64 n]] w fun e w' => e = .returned (.int .i64 1) ∧ Below w.heap.size w w' := by
  have HB := Lib.hid (ba_size w #[.int .i64 k, .string t, .int .i64 n] 48)
  obtain ⟨c0, c1, c2⟩ := box3 (heap_alloc_new w (.cells #[.int .i64 k, .string t, .int .i64 n] 48))
  have H0 := Lib.hid (enter_nil t ht)
  have H1 := Lib.hid (event_nil t ht)
  have H2 := Lib.hid (spend_nil n)
  have H3 := Lib.hid (queue_nil t ht)
  have H4 := Lib.hid done_nil
  go_enter Tryd.func19, Tryd.ntmps19
  go_wp2_with (first
    | (go_at_call 36; refine (H0.out _).mono ?_; rintro e w2 ⟨rfl, hb2⟩)
    | (go_at_call 37; refine (H1.out _).mono ?_; rintro e w2 ⟨rfl, hb2⟩)
    | (go_at_call 38; refine (H2.out _).mono ?_; rintro e w2 ⟨rfl, hb2⟩)
    | (go_at_call 22; refine (H3.out _).mono ?_; rintro e w2 ⟨rfl, hb2⟩)
    | (go_at_call 23; refine (H4.out _).mono ?_; rintro e w2 ⟨rfl, hb2⟩))
  all_goals go_ret
  all_goals exact ⟨rfl, HB.out.trans (hb2.mono (by rw [asz]; omega))⟩

theorem do11_any {w : World} {C g q p r m u : Nat} {F : Nat → Prop} {rm : Int} {recs : List ByteArray} (k : Int) (t : ByteArray) (n : Int) (ht : t.size ≤ 1000 ∨ (65534 < t.size ∧ t.size ≤ 100000)) (h : Store11 w C g q p r F m u rm recs) (hm : m ≤ 80) (hu : ((u + 1009 : Nat) : Int) ≤ rm) (hrm : rm ≤ 4194304) :
    Calls Tryd.prog 19 #[.pointer (some ⟨g, 0, none⟩), .agg #[.int .i64 k, .string t, .int .i64 n]] w fun e w' => e = .returned (.int .i64 (noK (ofS recs) k t n)) ∧
      (∃ F' u', u' ≤ u + 1009 ∧ Store11 w' C g q p r F' (m + 1) u' rm (if noK (ofS recs) k t n = 0 then recs ++ [recK k t n] else recs) ∧ ∀ b, b < w.heap.size → F' b → F b) ∧ SFr F p r q w w' := by
  obtain ⟨D, L, segs, S, h, h1, rfl⟩ := h
  rw [← h.ofS]
  have hl := h.lens
  refine (do11_lay k t n (by omega) h.st h.log h.dsk (h.inv.lok hm (by omega)) h.inv.ok h.hq h.hp h.hr ⟨by omega, by omega⟩).mono ?_
  intro e w' hp
  obtain ⟨e1, ⟨F', e2, e4⟩, e3⟩ := h.lay h1 hm hp (fun h0 => by
    have := recK_size h0 ht
    exact ⟨takesF_rec h0, by omega, by omega⟩)
  refine ⟨e1, ⟨F', _, ?_, e2, e4⟩, e3⟩
  split
  · rename_i h0
    have := recK_size h0 ht
    omega
  · omega

theorem Store11.rng {w : World} {C g q p r m u : Nat} {F : Nat → Prop} {rm : Int} {recs : List ByteArray} (h : Store11 w C g q p r F m u rm recs) : ∀ b, F b → C ≤ b ∧ b < w.heap.size := by
  obtain ⟨D, L, segs, S, h, _, _⟩ := h
  exact h.st.rng

theorem SFr.to_below {w0 w w' : World} {C p r q : Nat} {F : Nat → Prop} (h : SFr F p r q w w') (hF : ∀ b, F b → C ≤ b ∧ b < w.heap.size) (h0 : Below w0.heap.size w0 w) (hp : w0.heap.size ≤ p) (hr : w0.heap.size ≤ r) (hq : w0.heap.size ≤ q) (hC : w0.heap.size ≤ C) : Below w0.heap.size w0 w' :=
  h0.trans ⟨h.os, h.tape, h.output, h.size, fun k hk => h.block k (by have := h0.size; omega) (by
    rintro (e | e | e | e)
    · omega
    · omega
    · omega
    · have := (hF k e).1; omega)⟩

theorem BFr.to_below {w0 w w' : World} {B p r : Nat} (h : BFr B p r w w') (h0 : Below w0.heap.size w0 w) (hp : w0.heap.size ≤ p) (hr : w0.heap.size ≤ r) (hB : w0.heap.size ≤ B) : Below w0.heap.size w0 w' :=
  h0.trans ⟨h.os, h.tape, h.output, h.size, fun k hk => h.block k (by have := h0.size; omega) (by rintro (e | e | e) <;> omega)⟩

/-! ### State, as -/
theorem state_own {w : World} {C g q : Nat} {S : SSt} (h : StRep w C g q S) (hsz : S.events.length ≤ 1000000 ∧ S.queue.length ≤ 1000000) :
    Calls Tryd.prog 16 #[.pointer (some ⟨g, 0, none⟩)] w fun e w' => ∃ v, e = .returned v ∧ SVal w' v S ∧ SFar w.heap.size v ∧ Below w.heap.size w w' := by
  refine (state_any h hsz).mono ?_
  rintro e w' ⟨A, c, A2, c2, rfl, h1, h2, hb⟩
  obtain ⟨B, d, e1, hd, r1, _⟩ := own_read h1 hsz.1
  obtain ⟨B2, d2, e2, hd2, r2, _⟩ := own_read h2 hsz.2
  cases e1
  cases e2
  exact ⟨_, rfl, ⟨_, _, _, _, rfl, hd, hd2, hsz.1, hsz.2, r1, r2⟩, SFar.mk (fun ad e => by subst e; exact (h1.lt _ rfl).1) (fun ad e => by subst e; exact (h2.lt _ rfl).1), hb⟩

theorem ret_rst1 {fn : Func} {p : Tmp} (h : fn.results = #[.cell p 35]) {a : Act} {w : World} {R : Ending → World → Prop} (g : Nat) (x y z u : Value) (hp : a.tmps.getD p undef = .pointer (some ⟨g, 0, none⟩))
    (hg : w.heap[g]? = some (.cells #[x, y, z, u] 35)) (hd : a.defers = []) (hR : R (.returned (.agg #[x, y, z, u])) w) : bodyPost Tryd.prog fn R .ret a w := by
  refine bodyPost_ret (v := .agg #[x, y, z, u]) ?_ hd hR
  exact results_cell_row h _ _ g _ _ _ _ hp hg Tryd.underlying35 rfl (by kernel_rfl)

set_option maxRecDepth 100000 in
theorem as_row (a : ByteArray) (A : Option Addr) (n c : Nat) (u : Int) (A2 : Option Addr) (n2 k2 : Nat) (w : World) : Calls Tryd.prog 15 #[.agg #[.string a, .slice A n c, .int .i64 u, .slice A2 n2 k2]] w fun e w' => e = .returned (.agg #[.string a, .slice A n c, .int .i64 u, .slice A2 n2 k2]) ∧ Below w.heap.size w w' := by
  obtain ⟨c0, c1, c2, c3, _⟩ := box4f (heap_alloc_new w (.cells #[.string a, .slice A n c, .int .i64 u, .slice A2 n2 k2] 40))
  go_enter Tryd.func15, Tryd.ntmps15
  go_wp2_with fail
  (try simp only [Exit.inBlock, Exit.then])
  refine ret_rst1 rfl (w.heap.size + 1) _ _ _ _ rfl ?_ rfl ⟨rfl, ((Below.refl _ _).alloc (Nat.le_refl _) _).alloc (by rw [asz]; omega) _⟩
  rw [← asz w (.cells #[.string a, .slice A n c, .int .i64 u, .slice A2 n2 k2] 40)]
  exact heap_alloc_new _ _

theorem as_any {w : World} {v : Value} {S : SSt} (h : SVal w v S) : Calls Tryd.prog 15 #[v] w fun e w' => e = .returned v ∧ Below w.heap.size w w' := by
  obtain ⟨A, c, A2, c2, rfl, _⟩ := h
  exact as_row _ _ _ _ _ _ _ _ w

end Go.Proofs.YtdogmcpmlglkfaaDoor

namespace Go.Proofs.YtdogmcpmlglkfaaDoor
open Go.RowKit Go.Proofs.YtdogmcpmlglkfaaDoorW.PrintWords Go.Proofs.YtdogmcpmlglkfaaDoor.PRef

theorem fresh_datas (rm : Int) : Datas room ⟨rm, false, 0, false, []⟩ [] ⟨#[]⟩ := fun _ _ => rfl

theorem tail_nil : Tail ⟨#[]⟩ := .inl rfl

theorem fresh_ok {rm : Int} (h0 : 0 ≤ rm) (h1 : rm ≤ 4194304) : DOk 0 ⟨rm, false, 0, false, []⟩ := ⟨Int.le_refl 0, of_decide_eq_true rfl, h1, h0, fun f hf => (by cases hf), Nat.le_refl _, List.nodup_nil⟩

theorem room_le : room.size ≤ 28 := by rw [room_size]; omega

theorem open_new {w : World} {p r : Nat} {rm : Int} (hd : DRep w p r ⟨rm, false, 0, false, []⟩) (h0 : 0 ≤ rm) (h1 : rm ≤ 4194304) :
    Calls Tryd.prog 12 #[.pointer (some ⟨p, 0, none⟩)] w fun e w' => ∃ C g q F, e = .returned (.tuple #[.pointer (some ⟨g, 0, none⟩), .int .i64 0]) ∧ w.heap.size ≤ q ∧ w.heap.size ≤ C ∧ Store11 w' C g q p r F 0 0 rm [] ∧ BFr w.heap.size p r w w' := by
  refine (storeOpen_any hd (fresh_ok h0 h1) (open_cap room_le (fresh_datas rm) rfl rfl (Nat.zero_le _) (fun _ h => by cases h) tail_nil (Nat.zero_le _))).mono ?_
  rintro e w' ⟨x, D', L', all, hend, hd', hf, hx⟩
  obtain ⟨rfl, rfl, h3⟩ := openEnd_of room_le (fresh_datas rm) rfl rfl (Nat.zero_le _) (fun _ h => by cases h) tail_nil hend
  obtain ⟨rfl, rfl⟩ := h3 rfl
  rcases hx with ⟨_, S, hS, C, g, q, hq, hqC, rfl, hst, hlog⟩ | ⟨_, hc, _⟩ | ⟨hc, _⟩
  · cases hS
    have hp := hd.lt
    have hr := hd.2.lt
    obtain ⟨F, hst⟩ := hst.repF
    refine ⟨C, g, q, F, rfl, hq, by omega, ⟨_, _, [], s0, ⟨hst, hlog, hd', ?_, rfl, rfl, hqC, by omega, by omega⟩, rfl, rfl⟩, hf⟩
    exact ⟨rfl, rfl, (fun rs h => by cases h), ⟨Int.le_refl 0, Int.le_refl 0⟩, rfl, (fun n _ => rfl), Nat.le_refl _, rfl, fresh_ok h0 h1, (fun _ h => by cases h), Nat.le_refl _, Nat.le_refl _, ⟨Int.le_refl 0, Int.le_refl 0⟩⟩
  · cases hc
  · exact absurd rfl hc

/-- Opened over the segments of a log. -/
theorem open_segs {w : World} {p r k : Nat} {D : DSt} {segs : List (List ByteArray)} {tl : ByteArray} (hd : DRep w p r D) (hok : DOk k D) (hD : Datas room D segs tl) (ho : D.off = false) (ha : D.armed = false) (hk : segs.length ≤ 90) (hs : ∀ rs ∈ segs, ∀ r ∈ rs, r.size ≤ 65535) (ht : Tail tl) (hl : segs.flatten.length ≤ 400000) :
    Calls Tryd.prog 12 #[.pointer (some ⟨p, 0, none⟩)] w fun e w' => ∃ a c, e = .returned (.tuple #[.pointer a, .int .i64 c]) ∧ BFr w.heap.size p r w w' ∧
      ((∃ S C g q, takesL s0 segs.flatten = some S ∧ a = some ⟨g, 0, none⟩ ∧ c = 0 ∧ StRep w' C g q S) ∨ (takesL s0 segs.flatten = none ∧ a = none ∧ c = 2)) := by
  refine (storeOpen_any hd hok (open_cap room_le hD ho ha hk hs ht hl)).mono ?_
  rintro e w' ⟨x, D', L', all, hend, hd', hf, hx⟩
  obtain ⟨rfl, rfl, h3⟩ := openEnd_of room_le hD ho ha hk hs ht hend
  rcases hx with ⟨_, S, hS, C, g, q, hq, hqC, rfl, hst, hlog⟩ | ⟨_, hc, rfl⟩ | ⟨hc, _⟩
  · exact ⟨_, _, rfl, hf, .inl ⟨S, C, g, q, hS, rfl, rfl, hst⟩⟩
  · exact ⟨_, _, rfl, hf, .inr ⟨hc, rfl, rfl⟩⟩
  · exact absurd rfl hc

theorem open_again {w : World} {C g q p r m u : Nat} {F : Nat → Prop} {rm : Int} {recs : List ByteArray} (h : Store11 w C g q p r F m u rm recs) (hm : m ≤ 80) :
    Calls Tryd.prog 12 #[.pointer (some ⟨p, 0, none⟩)] w fun e w' => ∃ C' g' q', e = .returned (.tuple #[.pointer (some ⟨g', 0, none⟩), .int .i64 0]) ∧ StRep w' C' g' q' (ofS recs) ∧ BFr w.heap.size p r w w' := by
  obtain ⟨D, L, segs, S, h, h1, rfl⟩ := h
  have hi := h.inv
  refine (open_segs h.dsk hi.ok hi.files.datas hi.off h1 (by have := hi.lens; omega) hi.small tail_nil (by have := hi.len; omega)).mono ?_
  rintro e w' ⟨a, c, rfl, hf, ⟨S', C', g', q', hS, rfl, rfl, hst⟩ | ⟨hc, _⟩⟩
  · rw [h.flat, h.tak] at hS
    cases hS
    rw [← h.ofS]
    exact ⟨C', g', q', rfl, hst, hf⟩
  · rw [h.flat, h.tak] at hc
    cases hc

theorem ofS_len {w : World} {C g q p r m u : Nat} {F : Nat → Prop} {rm : Int} {recs : List ByteArray} (h : Store11 w C g q p r F m u rm recs) : (ofS recs).events.length ≤ m ∧ (ofS recs).queue.length ≤ m := by
  obtain ⟨D, L, segs, S, h, h1, rfl⟩ := h
  rw [← h.ofS]
  exact h.lens

theorem Store11.st {w : World} {C g q p r m u : Nat} {F : Nat → Prop} {rm : Int} {recs : List ByteArray} (h : Store11 w C g q p r F m u rm recs) : StRep w C g q (ofS recs) := by
  obtain ⟨D, L, segs, S, h, h1, rfl⟩ := h
  rw [← h.ofS]
  exact h.st.rep

theorem queue11 {w : World} {C g q p r m u : Nat} {F : Nat → Prop} {rm : Int} {recs : List ByteArray} (t : ByteArray) (h : Store11 w C g q p r F m u rm recs) (hm : m ≤ 80) (ht : noQueue (ofS recs) t = 0) (hs : t.size ≤ 1000) (hu : ((u + (8 + (1 + t.size)) : Nat) : Int) ≤ rm) (hrm : rm ≤ 4194304) :
    Calls Tryd.prog 22 #[.pointer (some ⟨g, 0, none⟩), .string t] w fun e w' => e = .returned (.int .i64 0) ∧ (∃ F', Store11 w' C g q p r F' (m + 1) (u + (8 + (1 + t.size))) rm (recs ++ [⟨#[81]⟩ ++ t])) ∧ SFr F p r q w w' := by
  obtain ⟨D, L, segs, S, h, h1, rfl⟩ := h
  rw [← h.ofS] at ht
  have hl := h.lens
  have hz : (⟨#[81]⟩ ++ t : ByteArray).size = 1 + t.size := by rw [ByteArray.size_append]; rfl
  refine (queue_any t (by omega) h.st h.log h.dsk (h.inv.lok hm (by omega)) h.inv.ok h.hq h.hp h.hr ⟨by omega, by omega⟩).mono ?_
  intro e w' hp
  rw [ht] at hp
  obtain ⟨e1, ⟨F', e2, _⟩, e3⟩ := h.lay h1 hm hp (fun _ => ⟨takesF_rec (S := S) (k := 3) (n := 0) ht, by omega, by rw [hz]; exact hu⟩)
  rw [if_pos rfl, if_pos rfl, hz] at e2
  exact ⟨e1, ⟨F', e2⟩, e3⟩

theorem done11 {w : World} {C g q p r m u : Nat} {F : Nat → Prop} {rm : Int} {recs : List ByteArray} (h : Store11 w C g q p r F m u rm recs) (hm : m ≤ 80) (ht : noDone (ofS recs) = 0) (hu : ((u + 9 : Nat) : Int) ≤ rm) (hrm : rm ≤ 4194304) :
    Calls Tryd.prog 23 #[.pointer (some ⟨g, 0, none⟩)] w fun e w' => e = .returned (.int .i64 0) ∧ (∃ F', Store11 w' C g q p r F' (m + 1) (u + 9) rm (recs ++ [⟨#[68]⟩])) ∧ SFr F p r q w w' := by
  obtain ⟨D, L, segs, S, h, h1, rfl⟩ := h
  rw [← h.ofS] at ht
  have hl := h.lens
  refine (done_any h.st h.log h.dsk (h.inv.lok hm (by omega)) h.inv.ok h.hq h.hp h.hr ⟨by omega, by omega⟩).mono ?_
  intro e w' hp
  rw [ht] at hp
  obtain ⟨e1, ⟨F', e2, _⟩, e3⟩ := h.lay h1 hm hp (fun _ => ⟨takesF_rec (S := S) (k := 4) (t := ⟨#[]⟩) (n := 0) ht, of_decide_eq_true rfl, hu⟩)
  exact ⟨e1, ⟨F', e2⟩, e3⟩

def rA : ByteArray := ⟨#[81]⟩ ++ ⟨#[97]⟩
def rB : ByteArray := ⟨#[81]⟩ ++ ⟨#[98]⟩
def rD : ByteArray := ⟨#[68]⟩
def stB : SSt := ⟨⟨#[]⟩, [], 0, [⟨#[98]⟩]⟩

theorem aw_no1 : noQueue (ofS []) ⟨#[97]⟩ = 0 := by decide +kernel
theorem aw_no2 : noQueue (ofS [rA]) ⟨#[98]⟩ = 0 := by decide +kernel
theorem aw_no3 : noDone (ofS [rA, rB]) = 0 := by decide +kernel
theorem aw_st : sameB (ofS [rA, rB, rD]) stB = true := by decide +kernel

theorem sval_b {w : World} {g : Nat} {t : TypeId} (h : w.heap[g]? = some (.cells #[.string ⟨#[98]⟩] t)) : SVal w (.agg #[.string ⟨#[]⟩, .slice none 0 0, .int .i64 0, .slice (some ⟨g, 0, none⟩) 1 1]) stB :=
  ⟨⟨none, 0, some ⟨g, 0, none⟩, 1, rfl, Nat.le_refl _, Nat.le_refl _, Nat.zero_le _, of_decide_eq_true rfl, ⟨rfl, by simp [stB], fun h => absurd h (Nat.lt_irrefl _)⟩, strs_read (c := [.string ⟨#[98]⟩]) h rfl (of_decide_eq_true rfl)⟩⟩

set_option maxHeartbeats 4000000 in
set_option maxRecDepth 100000 in
theorem awake11 (w : World) : Calls Tryd.prog 8 #[] w fun e w' => e = .returned (.bool true) ∧ Below w.heap.size w w' := by
  go_enter Tryd.func8, Tryd.ntmps8
  go_upto_region 3 with (first
    | (go_at_call 9; refine (new_ok 500 _ (by omega) (by omega)).mono ?_; rintro e w1 ⟨p, r, rfl, hd1, hp, hr, hb1⟩; have HD1 := Lib.hid hd1; have HB1 := Lib.hid hb1; clear hd1 hb1)
    | (go_at_call 12; refine (open_new HD1.out (by omega) (by omega)).mono ?_; rintro e w2 ⟨C, g, q, F2, rfl, hq, hC, hs2, hf2⟩; have HS2 := Lib.hid hs2; have HB2 := Lib.hid (hf2.to_below HB1.out hp hr HB1.out.size); have hz := HB1.out.size; clear hs2 hf2))
  have hq' : w.heap.size ≤ q := by omega
  have hC' : w.heap.size ≤ C := by omega
  clear HD1 hq hC hz
  go_upto_region 5 with (first
    | (go_at_call 22; refine (queue11 ⟨#[97]⟩ HS2.out (by omega) aw_no1 (of_decide_eq_true rfl) (of_decide_eq_true rfl) (by omega)).mono ?_; rintro e w3 ⟨rfl, ⟨F3, hs3⟩, hf3⟩; have HS3 := Lib.hid (show Store11 w3 C g q p r F3 1 10 500 [rA] from hs3); have HB3 := Lib.hid (hf3.to_below HS2.out.rng HB2.out hp hr hq' hC'); clear hs3 hf3 HS2)
    | (go_at_call 22; refine (queue11 ⟨#[98]⟩ HS3.out (by omega) aw_no2 (of_decide_eq_true rfl) (of_decide_eq_true rfl) (by omega)).mono ?_; rintro e w4 ⟨rfl, ⟨F4, hs4⟩, hf4⟩; have HS4 := Lib.hid (show Store11 w4 C g q p r F4 2 20 500 [rA, rB] from hs4); have HB4 := Lib.hid (hf4.to_below HS3.out.rng HB3.out hp hr hq' hC'); clear hs4 hf4 HS3)
    | (go_at_call 23; refine (done11 HS4.out (by omega) aw_no3 (of_decide_eq_true rfl) (by omega)).mono ?_; rintro e w5 ⟨rfl, ⟨F5, hs5⟩, hf5⟩; have HS5 := Lib.hid (show Store11 w5 C g q p r F5 3 29 500 [rA, rB, rD] from hs5); have HB5 := Lib.hid (hf5.to_below HS4.out.rng HB4.out hp hr hq' hC'); clear hs5 hf5 HS4))
  go_upto_region 6 with (go_at_call 12; refine (open_again HS5.out (by omega)).mono ?_; rintro e w6 ⟨C6, g6, q6, rfl, hs6, hf6⟩; have HS6 := Lib.hid hs6; have HB6 := Lib.hid (hf6.to_below HB5.out hp hr (HB5.out.size)); clear hs6 hf6)
  have hl5 := ofS_len HS5.out
  go_wp2_with (first
    | (go_at_call 16; refine (state_own HS6.out ⟨by omega, by omega⟩).mono ?_; rintro e w7 ⟨v, rfl, hv7, _, hb7⟩; have HV7 := Lib.hid hv7; have HB7 := Lib.hid (HB6.out.trans (hb7.mono HB6.out.size)); clear hv7 hb7)
    | (go_at_call 15; refine (as_any HV7.out).mono ?_; rintro e w8 ⟨rfl, hb8⟩; have HV8 := Lib.hid (HV7.out.below hb8); have HB8 := Lib.hid (HB7.out.trans (hb8.mono HB7.out.size)); clear hb8)
    | (go_at_call 14; refine (same_any (HV8.out.below ((Below.refl _ _).alloc (Nat.le_refl _) _)) (sval_b (heap_alloc_new _ _))).mono ?_; rintro e w9 ⟨rfl, hb9⟩; rw [aw_st]; have HB9 := Lib.hid ((HB8.out.alloc HB8.out.size _).trans (hb9.mono (by rw [asz]; have := HB8.out.size; omega))); clear hb9))
  go_ret
  exact ⟨rfl, HB9.out⟩

end Go.Proofs.YtdogmcpmlglkfaaDoor

namespace Go.Proofs.YtdogmcpmlglkfaaDoor
open Go.ChangeShapes Go.WideShapes Go.ChangeAt Go.RowKit Go.Proofs.YtdogmcpmlglkfaaDoorW.PrintWords

theorem own0 : ownKnob Tryd.prog.godebug = none := by kernel_rfl
theorem laid : laidOutB Tryd.prog = true := by kernel_rfl

theorem u8_range {n : Int} (h : (Lit.int .u8 n).wf = true) : 0 ≤ n ∧ n ≤ 255 := by
  have e1 : IntKind.u8.min = 0 := by decide
  have e2 : IntKind.u8.max = 255 := by decide
  simp only [Lit.wf, Bool.and_eq_true, decide_eq_true_eq, e1, e2] at h
  exact h

theorem u16_range {n : Int} (h : (Lit.int .u16 n).wf = true) : 0 ≤ n ∧ n ≤ 65535 := by
  have e1 : IntKind.u16.min = 0 := by decide
  have e2 : IntKind.u16.max = 65535 := by decide
  simp only [Lit.wf, Bool.and_eq_true, decide_eq_true_eq, e1, e2] at h
  exact h

theorem i64_range {n : Int} (h : (Lit.int .i64 n).wf = true) : -9223372036854775808 ≤ n ∧ n ≤ 9223372036854775807 := by
  have e1 : IntKind.i64.min = -9223372036854775808 := by decide
  have e2 : IntKind.i64.max = 9223372036854775807 := by decide
  simp only [Lit.wf, Bool.and_eq_true, decide_eq_true_eq, e1, e2] at h
  exact h

end Go.Proofs.YtdogmcpmlglkfaaDoor

namespace Go.Proofs.YtdogmcpmlglkfaaDoor
open Go.ChangeShapes Go.WideShapes Go.ChangeAt Go.RowKit Go.Proofs.YtdogmcpmlglkfaaDoorW.PrintWords Go.Proofs.YtdogmcpmlglkfaaDoor.PRef

def laid3 : List (String × DataW Unit) := [("math/bits.deBruijn32tab", Rows.laid_math_bits_deBruijn32tab), ("math/bits.deBruijn64tab", Rows.laid_math_bits_deBruijn64tab), ("internal/strconv.uint64pow10", Rows.laid_internal_strconv_uint64pow10)]

/-- The door's own heap meets the condition. -/
theorem door_met (os : Os) (args : Array Value) : laidMetH Tryd.prog laid3 ((World.doorLaid Tryd.prog 24 os).forCall (fun _ _ => 0) ⟨#[], args, []⟩).memory :=
  laidMetH_of_parts3 (fuel := 8) (laidMet_of_run' 8 (by kernel_rfl) (by kernel_rfl)) (by kernel_rfl) (by kernel_rfl)

theorem act11_opens {H : Type} (enc : TypeId × Value → H) (w : World) (spare : Nat → Bool) (held : Bool) :
    Opens enc Tryd.prog w spare held 48 k48 (fun x => (Lit.int .i64 x.f0).wf = true ∧ x.f1.size ≤ maxLen ∧ (Lit.int .i64 x.f2).wf = true) :=
  Opens.iso (fun x : Act11 => (x.f0, x.f1, x.f2)) (fun y => ⟨y.1, y.2.1, y.2.2⟩) (fun _ => rfl)
    (Opens.struct3 Tryd.underlying48 ⟨rfl, by kernel_rfl, rfl, by kernel_rfl, rfl, by kernel_rfl, by kernel_rfl⟩
      (Opens.int Tryd.underlying3) (Opens.str Tryd.underlying9) (Opens.int Tryd.underlying3))

end Go.Proofs.YtdogmcpmlglkfaaDoor
