/- Walks of package disk: the disk's representation in memory; New, On, Arm, begin, Read. -/
import Derived.Test.YtdogmcpmlglkfaaProg
import Derived.Test.YtdogmcpmlglkfaaLib4
namespace Go.Proofs.Ytdogmcpmlglkfaa
open Go.RowKit

structure DFile where
  name : ByteArray
  data : ByteArray
  safe : Nat

structure DSt where
  room : Int
  off : Bool
  left : Int
  armed : Bool
  fs : List DFile

def fval (f : DFile) : Value := .agg #[.string f.data, .int .i64 f.safe]
def fent (f : DFile) : ByteArray × Value := (f.name, fval f)

def dcells (s : DSt) (r : Nat) : Array Value := #[.int .i64 s.room, .map (some r), .bool s.off, .int .i64 s.left, .bool s.armed]

/-- Block p is a disk; block r holds its files. -/
def DRep (w : World) (p r : Nat) (s : DSt) : Prop := w.heap[p]? = some (.cells (dcells s r) 57) ∧ MapL w r (s.fs.map fent)

theorem box5 {w : World} {b : Nat} {x y z u v : Value} {t : TypeId} (h : w.heap[b]? = some (.cells #[x, y, z, u, v] t)) :
    w.cell? ⟨b, 0, none⟩ = some x ∧ w.cell? ⟨b, 1, none⟩ = some y ∧ w.cell? ⟨b, 2, none⟩ = some z ∧ w.cell? ⟨b, 3, none⟩ = some u ∧ w.cell? ⟨b, 4, none⟩ = some v ∧ (∀ o, w.frozen? ⟨b, o, none⟩ = false) := by
  refine ⟨by simp [World.cell?, h], by simp [World.cell?, h], by simp [World.cell?, h], by simp [World.cell?, h], by simp [World.cell?, h], fun o => by simp [World.frozen?, h]⟩

theorem DRep.ne {w : World} {p r : Nat} {s : DSt} (h : DRep w p r s) : r ≠ p := fun e => by
  subst e
  exact h.2.not_cells h.1
theorem DRep.lt {w : World} {p r : Nat} {s : DSt} (h : DRep w p r s) : p < w.heap.size := (Array.getElem?_eq_some_iff.1 h.1).1
theorem DRep.move {w w' : World} {p r : Nat} {s : DSt} (h : DRep w p r s) (hp : w'.heap[p]? = w.heap[p]?) (hr : w'.heap[r]? = w.heap[r]?) : DRep w' p r s := ⟨hp.trans h.1, h.2.move hr⟩
theorem DRep.below {w w' : World} {p r : Nat} {s : DSt} (h : DRep w p r s) (hb : Below w.heap.size w w') : DRep w' p r s := h.move (hb.block p h.lt) (hb.block r h.2.lt)
theorem DRep.drewN {w : World} {p r : Nat} {s : DSt} (h : DRep w p r s) (n : Nat) : DRep (w.drewN n) p r s := h

theorem DRep.set {w : World} {p r : Nat} {s s' : DSt} (h : DRep w p r s) (j : Nat) (v : Value) (hs : (dcells s r).setIfInBounds j v = dcells s' r) (hf : s'.fs = s.fs) : DRep (w.setCell ⟨p, j, none⟩ v) p r s' :=
  ⟨by rw [← hs]; exact setCell_row v h.1, by rw [hf]; exact h.2.move (Below.heap_setCell _ _ _ _ h.ne)⟩

/-- Of a disk nothing but its two blocks is turned. -/
abbrev DFr (p r : Nat) (w w' : World) : Prop := Fr (fun b => b = p ∨ b = r) w w'

theorem on_nil (w : World) : Calls Try.prog 15 #[.pointer none] w fun e w' => e = .returned (.bool false) ∧ w' = w := by
  go_enter Try.func15, Try.ntmps15
  go_wp2
  go_ret
  exact ⟨rfl, rfl⟩

theorem on_any {w : World} {p r : Nat} {s : DSt} (h : DRep w p r s) : Calls Try.prog 15 #[.pointer (some ⟨p, 0, none⟩)] w fun e w' => e = .returned (.bool (!s.off)) ∧ Below w.heap.size w w' := by
  obtain ⟨c0, c1, c2, c3, c4, cf⟩ := box5 h.1
  clear cf
  go_enter Try.func15, Try.ntmps15
  go_wp2_with fail
  go_ret
  exact ⟨rfl, Below.refl _ _⟩

theorem arm_nil (n : Int) (w : World) : Calls Try.prog 14 #[.pointer none, .int .i64 n] w fun e w' => e = .returned (.tuple #[]) ∧ w' = w := by
  go_enter Try.func14, Try.ntmps14
  go_wp2
  go_end0
  exact ⟨rfl, rfl⟩

theorem arm_any {w : World} {p r : Nat} {s : DSt} (n : Int) (h : DRep w p r s) : Calls Try.prog 14 #[.pointer (some ⟨p, 0, none⟩), .int .i64 n] w fun e w' => e = .returned (.tuple #[]) ∧ DRep w' p r { s with armed := true, left := max n 0 } ∧ DFr p r w w' := by
  obtain ⟨c0, c1, c2, c3, c4, cf⟩ := box5 h.1
  have f3 := cf 3
  have f4 := cf 4
  have hD := Lib.hid h
  clear cf h
  go_enter Try.func14, Try.ntmps14
  go_wp2_with fail
  · go_end0
    refine ⟨rfl, DRep.set (s := { s with armed := true }) (DRep.set hD.out 4 _ rfl rfl) 3 _ ?_ rfl, ((Fr.refl _ w).setCell (.inr (.inl rfl)) _).setCell (.inr (.inl rfl)) _⟩
    rw [show max n 0 = 0 by omega]
    rfl
  · go_end0
    refine ⟨rfl, DRep.set (s := { s with armed := true }) (DRep.set hD.out 4 _ rfl rfl) 3 _ ?_ rfl, ((Fr.refl _ w).setCell (.inr (.inl rfl)) _).setCell (.inr (.inl rfl)) _⟩
    rw [show max n 0 = n by omega]
    rfl

theorem new_bad (n : Int) (w : World) (h : n < 0 ∨ 4194304 < n) : Calls Try.prog 9 #[.int .i64 n] w fun e w' => e = .returned (.pointer none) ∧ w' = w := by
  rcases h with h | h
  · go_enter Try.func9, Try.ntmps9
    go_wp2
    go_ret
    exact ⟨rfl, rfl⟩
  · have h' : ¬ n < 0 := by omega
    go_enter Try.func9, Try.ntmps9
    go_wp2
    go_ret
    exact ⟨rfl, rfl⟩

theorem new_ok (n : Int) (w : World) (h0 : 0 ≤ n) (h : n ≤ 4194304) : Calls Try.prog 9 #[.int .i64 n] w fun e w' => ∃ p r, e = .returned (.pointer (some ⟨p, 0, none⟩)) ∧ DRep w' p r ⟨n, false, 0, false, []⟩ ∧ w.heap.size ≤ p ∧ w.heap.size ≤ r ∧ Below w.heap.size w w' := by
  have hmm := @run_makeMap Try.prog
  go_enter Try.func9, Try.ntmps9
  go_wp2_with fail
  go_ret
  refine ⟨w.heap.size + 1, w.heap.size, rfl, ⟨?_, ?_⟩, by omega, Nat.le_refl _, ((Below.refl _ _).alloc (Nat.le_refl _) _).alloc (by rw [asz]; omega) _⟩
  · have := heap_alloc_new (w.alloc (.map #[] 0)) (.cells #[.int .i64 n, .map (some w.heap.size), .bool false, .int .i64 0, .bool false] 57)
    rw [asz] at this
    exact this
  · exact (MapL.made w).alloc _

/-! ### begin -/
def badName (name : ByteArray) : Bool := decide (name.toList = [] ∨ 32 < name.size)

def beginS (s : DSt) (name : ByteArray) : Int × DSt :=
  if s.off then (6, s)
  else if s.armed = true ∧ s.left = 0 then (6, { s with off := true })
  else (if badName name then 1 else 0, { s with left := max (s.left - 1) 0 })

theorem begin_nil (name : ByteArray) (w : World) : Calls Try.prog 24 #[.pointer none, .string name] w fun e w' => e = .returned (.int .i64 1) ∧ w' = w := by
  go_enter Try.func24, Try.ntmps24
  go_wp2
  go_ret
  exact ⟨rfl, rfl⟩

set_option maxHeartbeats 1000000 in
theorem begin_go {w : World} {p r : Nat} {s : DSt} (name : ByteArray) (h : DRep w p r s) (hl : 0 ≤ s.left) (hl2 : s.left ≤ 9223372036854775807) (ho : s.off = false) (ha : (s.armed && (s.left == 0)) = false) :
    Calls Try.prog 24 #[.pointer (some ⟨p, 0, none⟩), .string name] w fun e w' => e = .returned (.int .i64 (if badName name then 1 else 0)) ∧ DRep w' p r { s with left := max (s.left - 1) 0 } ∧ DFr p r w w' := by
  obtain ⟨c0, c1, c2, c3, c4, cf⟩ := box5 h.1
  have f2 := cf 2
  have f3 := cf 3
  have hD := Lib.hid h
  clear cf h
  obtain ⟨s', hs'⟩ : ∃ s' : DSt, s' = { s with left := max (s.left - 1) 0 } := ⟨_, rfl⟩
  obtain ⟨E, hE⟩ : ∃ E : Int, E = (if badName name then 1 else 0) := ⟨_, rfl⟩
  have hfin : ∀ x : Int, x = max (s.left - 1) 0 → DRep (w.setCell ⟨p, 3, none⟩ (.int .i64 x)) p r s' ∧ DFr p r w (w.setCell ⟨p, 3, none⟩ (.int .i64 x)) := fun x hx => by
    subst hx
    subst hs'
    exact ⟨hD.out.set 3 _ rfl rfl, (Fr.refl _ w).setCell (.inr (.inl rfl)) _⟩
  have hbad : (name.toList = [] → E = 1) ∧ (32 < name.size → E = 1) ∧ (¬ name.toList = [] → ¬ 32 < name.size → E = 0) := by
    refine ⟨fun h => ?_, fun h => ?_, fun h1 h2 => ?_⟩
    · rw [hE, if_pos (show badName name = true from decide_eq_true (Or.inl h))]
    · rw [hE, if_pos (show badName name = true from decide_eq_true (Or.inr h))]
    · rw [hE, if_neg (by simp only [badName, decide_eq_true_eq]; rintro (h | h); exact h1 h; exact h2 h)]
  rw [← hs', ← hE]
  have HF := Lib.hid hfin
  have HB := Lib.hid hbad
  clear hfin hbad hE hs' hD
  cases har : s.armed with
  | true =>
    rw [har] at ha c4
    have hl0 : (s.left == 0) = false := by simpa using ha
    have hl1 : ¬ s.left = 0 := by simpa using hl0
    clear ha har
    by_cases hn1 : name.toList = []
    · go_enter Try.func24, Try.ntmps24
      go_wp2_with fail
      all_goals go_ret
      all_goals (refine ⟨by rw [HB.out.1 hn1]; rfl, HF.out _ ?_⟩; omega)
    · have hn1b : name.toList.isEmpty = false := by cases hc : name.toList with | nil => exact absurd hc hn1 | cons _ _ => rfl
      by_cases hn2 : 32 < name.size
      · go_enter Try.func24, Try.ntmps24
        go_wp2_with fail
        all_goals go_ret
        all_goals (refine ⟨by rw [HB.out.2.1 hn2]; rfl, HF.out _ ?_⟩; omega)
      · go_enter Try.func24, Try.ntmps24
        go_wp2_with fail
        all_goals go_ret
        all_goals (refine ⟨by rw [HB.out.2.2 hn1 hn2]; rfl, HF.out _ ?_⟩; omega)
  | false =>
    rw [har] at c4
    clear ha har
    by_cases hn1 : name.toList = []
    · go_enter Try.func24, Try.ntmps24
      go_wp2_with fail
      all_goals go_ret
      all_goals (refine ⟨by rw [HB.out.1 hn1]; rfl, HF.out _ ?_⟩; omega)
    · have hn1b : name.toList.isEmpty = false := by cases hc : name.toList with | nil => exact absurd hc hn1 | cons _ _ => rfl
      by_cases hn2 : 32 < name.size
      · go_enter Try.func24, Try.ntmps24
        go_wp2_with fail
        all_goals go_ret
        all_goals (refine ⟨by rw [HB.out.2.1 hn2]; rfl, HF.out _ ?_⟩; omega)
      · go_enter Try.func24, Try.ntmps24
        go_wp2_with fail
        all_goals go_ret
        all_goals (refine ⟨by rw [HB.out.2.2 hn1 hn2]; rfl, HF.out _ ?_⟩; omega)

theorem begin_any {w : World} {p r : Nat} {s : DSt} (name : ByteArray) (h : DRep w p r s) (hl : 0 ≤ s.left) (hl2 : s.left ≤ 9223372036854775807) :
    Calls Try.prog 24 #[.pointer (some ⟨p, 0, none⟩), .string name] w fun e w' => e = .returned (.int .i64 (beginS s name).1) ∧ DRep w' p r (beginS s name).2 ∧ DFr p r w w' := by
  by_cases ho : s.off = true
  · rw [show beginS s name = (6, s) by rw [beginS, if_pos ho]]
    obtain ⟨c0, c1, c2, c3, c4, cf⟩ := box5 h.1
    have hD := Lib.hid h
    clear cf h
    go_enter Try.func24, Try.ntmps24
    go_wp2_with fail
    go_ret
    exact ⟨rfl, hD.out, Fr.refl _ _⟩
  · by_cases ha : s.armed = true ∧ s.left = 0
    · obtain ⟨s', hs'⟩ : ∃ s' : DSt, s' = { s with off := true } := ⟨_, rfl⟩
      rw [show beginS s name = (6, s') by rw [beginS, if_neg ho, if_pos ha, hs']]
      obtain ⟨c0, c1, c2, c3, c4, cf⟩ := box5 h.1
      have f2 := cf 2
      have hD := Lib.hid (show DRep (w.setCell ⟨p, 2, none⟩ (.bool true)) p r s' by rw [hs']; exact h.set 2 _ rfl rfl)
      have ho' : s.off = false := by simpa using ho
      obtain ⟨ha1, ha2⟩ := ha
      clear cf h hs' ho
      go_enter Try.func24, Try.ntmps24
      go_wp2_with fail
      go_ret
      exact ⟨rfl, hD.out, (Fr.refl _ w).setCell (.inr (.inl rfl)) _⟩
    · rw [show beginS s name = (if badName name then 1 else 0, { s with left := max (s.left - 1) 0 }) by rw [beginS, if_neg ho, if_neg ha]]
      refine begin_go name h hl hl2 (by simpa using ho) ?_
      rw [Bool.eq_false_iff]
      intro hc
      simp only [Bool.and_eq_true, beq_iff_eq] at hc
      exact ha hc

/-! ### files -/
def dget (fs : List DFile) (name : ByteArray) : Option DFile := fs.find? (fun f => decide (f.name = name))
def dput (fs : List DFile) (f : DFile) : List DFile := if (dget fs f.name).isSome then fs.map (fun g => if g.name = f.name then f else g) else fs ++ [f]

theorem mget_dmap (fs : List DFile) (name : ByteArray) : mget (fs.map fent) name = (dget fs name).map fval := by
  unfold mget dget
  induction fs with
  | nil => rfl
  | cons f fs ih =>
    simp only [List.map_cons, List.find?_cons]
    by_cases h : f.name = name
    · simp [fent, h]
    · simpa [fent, h] using ih

theorem mhas_dmap (fs : List DFile) (name : ByteArray) : mhas (fs.map fent) name = (dget fs name).isSome := by
  unfold mhas dget
  induction fs with
  | nil => rfl
  | cons f fs ih =>
    simp only [List.map_cons, List.any_cons, List.find?_cons]
    by_cases h : f.name = name
    · simp [fent, h]
    · simpa [fent, h] using ih

theorem mput_dmap (fs : List DFile) (f : DFile) : mput (fs.map fent) f.name (fval f) = (dput fs f).map fent := by
  unfold mput dput
  rw [mhas_dmap]
  split
  · rw [List.map_map, List.map_map]
    refine List.map_congr_left fun g _ => ?_
    by_cases h : g.name = f.name
    · simp [fent, h]
    · simp [fent, h]
  · rw [List.map_append]; rfl

theorem zero_file (w : World) : (zeroValue 59).run Try.prog w = .ok (.agg #[.string ⟨#[]⟩, .int .i64 0]) w := by kernel_rfl

/-! ### Read -/
def readS (s : DSt) (name : ByteArray) : ByteArray × Int :=
  if s.off then (⟨#[]⟩, 6) else match dget s.fs name with | none => (⟨#[]⟩, 10) | some f => (f.data, 0)

theorem read_nil (name : ByteArray) (w : World) : Calls Try.prog 13 #[.pointer none, .string name] w fun e w' => e = .returned (.tuple #[.string ⟨#[]⟩, .int .i64 1]) ∧ w' = w := by
  go_enter Try.func13, Try.ntmps13
  go_wp2
  go_ret2
  exact ⟨rfl, rfl⟩

theorem read_any {w : World} {p r : Nat} {s : DSt} (name : ByteArray) (h : DRep w p r s) : Calls Try.prog 13 #[.pointer (some ⟨p, 0, none⟩), .string name] w fun e w' => e = .returned (.tuple #[.string (readS s name).1, .int .i64 (readS s name).2]) ∧ Below w.heap.size w w' := by
  obtain ⟨c0, c1, c2, c3, c4, cf⟩ := box5 h.1
  have hD := Lib.hid h
  clear cf h
  cases ho : s.off with
  | true =>
    rw [show readS s name = (⟨#[]⟩, 6) by rw [readS, if_pos ho]]
    go_enter Try.func13, Try.ntmps13
    go_wp2_with fail
    go_ret2
    exact ⟨rfl, Below.refl _ _⟩
  | false =>
    cases hg : dget s.fs name with
    | none =>
      rw [show readS s name = (⟨#[]⟩, 10) by rw [readS, if_neg (by rw [ho]; decide), hg]]
      have h1 : mget (s.fs.map fent) name = none := by rw [mget_dmap, hg]; rfl
      have h2 : mhas (s.fs.map fent) name = false := by rw [mhas_dmap, hg]; rfl
      have H1 := Lib.hid h1
      have H2 := Lib.hid h2
      clear h1 h2 hg
      go_enter Try.func13, Try.ntmps13
      go_wp2_with (at_lookup; refine wpList_lookup_L _ rfl _ _ 55 true rfl 9 59 Try.underlying55 Try.underlying9 _ (zero_file _) r _ rfl hD.out.2 name rfl ?_; rw [H1.out, H2.out])
      go_ret2
      exact ⟨rfl, (Below.refl _ _).alloc (Nat.le_refl _) _⟩
    | some f =>
      rw [show readS s name = (f.data, 0) by rw [readS, if_neg (by rw [ho]; decide), hg]]
      have h1 : mget (s.fs.map fent) name = some (.agg #[.string f.data, .int .i64 f.safe]) := by rw [mget_dmap, hg]; rfl
      have h2 : mhas (s.fs.map fent) name = true := by rw [mhas_dmap, hg]; rfl
      have H1 := Lib.hid h1
      have H2 := Lib.hid h2
      clear h1 h2 hg
      go_enter Try.func13, Try.ntmps13
      go_wp2_with (at_lookup; refine wpList_lookup_L _ rfl _ _ 55 true rfl 9 59 Try.underlying55 Try.underlying9 _ (zero_file _) r _ rfl hD.out.2 name rfl ?_; rw [H1.out, H2.out])
      go_ret2
      exact ⟨rfl, (Below.refl _ _).alloc (Nat.le_refl _) _⟩

end Go.Proofs.Ytdogmcpmlglkfaa
