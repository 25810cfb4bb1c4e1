/- The model of palaverlaw09 in memory; find, used. -/
import Derived.Test.YtdogmcpmlglkfaaDT
namespace Go.Proofs.Ytdogmcpmlglkfaa
open Go.RowKit Go.Proofs.YtdogmcpmlglkfaaW.PrintWords Go.Proofs.Ytdogmcpmlglkfaa.PRef

def fcell (f : DFile) : List Value := [.string f.name, .string f.data, .int .i64 f.safe]
def fcells (fs : List DFile) : List Value := fs.flatMap fcell

theorem fcells_length (fs : List DFile) : (fcells fs).length = fs.length * 3 := by
  unfold fcells
  induction fs with
  | nil => rfl
  | cons f fs ih => rw [List.flatMap_cons, List.length_append, ih]; simp [fcell]; omega

theorem fcells_at : ∀ {fs : List DFile} {k : Nat} (h : k < fs.length), (fcells fs)[k * 3]? = some (.string fs[k].name) ∧ (fcells fs)[k * 3 + 1]? = some (.string fs[k].data) ∧ (fcells fs)[k * 3 + 2]? = some (.int .i64 fs[k].safe)
  | f :: fs, 0, _ => ⟨rfl, rfl, rfl⟩
  | f :: fs, k + 1, h => by
    obtain ⟨h1, h2, h3⟩ := fcells_at (fs := fs) (k := k) (by simpa using h)
    unfold fcells at *
    rw [List.flatMap_cons]
    refine ⟨?_, ?_, ?_⟩
    · rw [show (k + 1) * 3 = k * 3 + 1 + 1 + 1 by omega]; simpa [fcell] using h1
    · rw [show (k + 1) * 3 + 1 = k * 3 + 1 + 1 + 1 + 1 by omega]; simpa [fcell] using h2
    · rw [show (k + 1) * 3 + 2 = k * 3 + 2 + 1 + 1 + 1 by omega]; simpa [fcell] using h3

def mcells (s : DSt) (V : Value) : Array Value := #[.int .i64 s.room, V, .bool s.off, .bool s.armed, .int .i64 s.left]

/-- Block q is the law's model, its row of files is V; all of it at B or above. -/
def MRep (w : World) (B q : Nat) (V : Value) (s : DSt) : Prop :=
  B ≤ q ∧ w.heap[q]? = some (.cells (mcells s V) 41) ∧ w.ownsRow B 48 3 V s.fs.length (fcells s.fs)

theorem MRep.lt {w : World} {B q : Nat} {V : Value} {s : DSt} (h : MRep w B q V s) : q < w.heap.size := (Array.getElem?_eq_some_iff.1 h.2.1).1
theorem MRep.below {w w' : World} {B q : Nat} {V : Value} {s : DSt} (h : MRep w B q V s) (hb : Below w.heap.size w w') : MRep w' B q V s :=
  ⟨h.1, (hb.block q h.lt).trans h.2.1, own_below h.2.2 hb⟩
theorem MRep.drew {w : World} {B q : Nat} {V : Value} {s : DSt} (h : MRep w B q V s) : MRep w.drew B q V s := h
theorem MRep.ne {w : World} {B q : Nat} {V : Value} {s : DSt} (h : MRep w B q V s) {g : Nat} (hg : V.ownBlock = some g) : g ≠ q := fun e => by
  obtain ⟨c, hc⟩ := own_kind h.2.2 hg
  rw [e, h.2.1] at hc
  simp only [Option.some.injEq, Obj.cells.injEq] at hc
  exact absurd hc.2.1 (by decide)

/-- The file at a place. -/
theorem MRep.file {w : World} {B q : Nat} {V : Value} {s : DSt} (h : MRep w B q V s) {k : Nat} (hk : k < s.fs.length) : ∃ g cap, V = .slice (some ⟨g, 0, none⟩) s.fs.length cap ∧ s.fs.length ≤ cap ∧ B ≤ g ∧ g < w.heap.size ∧ g ≠ q ∧
    w.cell? ⟨g, k * 3, none⟩ = some (.string s.fs[k].name) ∧ w.cell? ⟨g, k * 3 + 1, none⟩ = some (.string s.fs[k].data) ∧ w.cell? ⟨g, k * 3 + 2, none⟩ = some (.int .i64 s.fs[k].safe) := by
  obtain ⟨g, cap, rfl⟩ := own_pos h.2.2 (by omega)
  have hl := h.2.2.lt g rfl
  have hn : s.fs.length ≤ cap := by
    obtain ⟨A, c, e, hc⟩ := own_slice h.2.2
    cases e
    exact hc
  obtain ⟨e0, e1, e2⟩ := fcells_at hk
  have hc := fun j u hj => by have := h.2.2.cells (g := g) rfl j u hj; rwa [add0] at this
  exact ⟨g, cap, rfl, hn, hl.1, hl.2, h.ne rfl, hc _ _ e0, hc _ _ e1, hc _ _ e2⟩

/-! ### find -/
def fix (fs : List DFile) (name : ByteArray) : Int := match fs.findIdx? (fun f => decide (f.name = name)) with | some i => i | none => -1

theorem fix_hit {fs : List DFile} {name : ByteArray} {i : Nat} (hi : i < fs.length) (h : fs[i].name = name) (hno : ∀ j (hj : j < fs.length), j < i → fs[j].name ≠ name) : fix fs name = i := by
  have : fs.findIdx? (fun f => decide (f.name = name)) = some i := by
    rw [List.findIdx?_eq_some_iff_getElem]
    exact ⟨hi, by simpa using h, fun j hj => by simpa using hno j (by omega) hj⟩
  unfold fix
  rw [this]

theorem fix_miss {fs : List DFile} {name : ByteArray} (hno : ∀ j (hj : j < fs.length), fs[j].name ≠ name) : fix fs name = -1 := by
  have : fs.findIdx? (fun f => decide (f.name = name)) = none := by
    rw [List.findIdx?_eq_none_iff]
    intro x hx
    obtain ⟨j, hj, rfl⟩ := List.getElem_of_mem hx
    simpa using hno j hj
  unfold fix
  rw [this]

set_option maxHeartbeats 1000000 in
theorem mfind_any {w : World} {B q : Nat} {V : Value} {s : DSt} (name : ByteArray) (h : MRep w B q V s) (hl : s.fs.length ≤ 1000000) :
    Calls Try.prog 20 #[.pointer (some ⟨q, 0, none⟩), .string name] w fun e w' => e = .returned (.int .i64 (fix s.fs name)) ∧ Below w.heap.size w w' := by
  obtain ⟨c0, c1, c2, c3, c4, cf⟩ := box5 h.2.1
  obtain ⟨A, c, hV, hc⟩ := own_slice h.2.2
  have H := Lib.hid h
  subst hV
  clear cf h c0 c2 c3 c4
  go_enter Try.func20, Try.ntmps20
  go_wp2
  go_loopw [5] (fun i wr => ∃ k : Nat, k ≤ s.fs.length ∧ i = .int .i64 k ∧ (∀ j (hj : j < s.fs.length), j < k → s.fs[j].name ≠ name) ∧ Below w.heap.size w wr) (fun i _ => s.fs.length - (intOf i).toNat)
  case atStart => exact ⟨0, Nat.zero_le _, rfl, fun _ _ h => absurd h (Nat.not_lt_zero _), Below.refl _ _⟩
  case round =>
    obtain ⟨k, hk, rfl, hno, hb⟩ := hrel
    have HB := Lib.hid hb
    have HNO := Lib.hid hno
    have d1 := (hb.cell (World.block_lt_of_cell? _ _ c1)).trans c1
    clear hb hno
    by_cases hlt : k < s.fs.length
    · obtain ⟨g, cap, e, hcap, hg1, hg2, hg3, f0, f1, f2⟩ := H.out.file hlt
      cases e
      have x0 := (HB.out.cell (p := ⟨g, k * 3, none⟩) hg2).trans f0
      obtain ⟨nm, hnm⟩ : ∃ nm, nm = s.fs[k].name := ⟨_, rfl⟩
      rw [← hnm] at x0
      have HNM := Lib.hid hnm
      clear f0 f1 f2 hnm
      by_cases he : nm = name
      · subst he
        go_wp2
        go_ret
        exact ⟨by rw [fix_hit hlt HNM.out.symm HNO.out]; rfl, HB.out⟩
      · have he2 : (nm.toList == name.toList) = false := by rw [eqs]; exact decide_eq_false he
        go_wp2
        exact ⟨⟨k + 1, by omega, by go_num, fun j hj hjk => by
          rcases Nat.lt_or_eq_of_le (Nat.le_of_lt_succ hjk) with h | h
          · exact HNO.out j hj h
          · subst h; rw [← HNM.out]; exact he, HB.out⟩, by simp [intOf]; omega⟩
    · obtain rfl : k = s.fs.length := by omega
      go_wp2
      go_ret
      exact ⟨by rw [fix_miss fun j hj => HNO.out j hj hj]; rfl, HB.out⟩

/-! ### used -/
theorem used_take {fs : List DFile} {k : Nat} (h : k < fs.length) : used (fs.take (k + 1)) = used (fs.take k) + fs[k].data.size := by
  rw [List.take_succ_eq_append_getElem h]
  unfold used
  rw [List.map_append, List.sum_append]
  rfl

theorem used_take_le (fs : List DFile) (k : Nat) : used (fs.take k) ≤ used fs := by
  have e := congrArg used (List.take_append_drop k fs)
  unfold used at *
  rw [List.map_append, List.sum_append] at e
  omega

set_option maxHeartbeats 1000000 in
theorem mused_any {w : World} {B q : Nat} {V : Value} {s : DSt} (h : MRep w B q V s) (hl : s.fs.length ≤ 1000000) (hu : used s.fs ≤ 4611686018427387904) :
    Calls Try.prog 27 #[.pointer (some ⟨q, 0, none⟩)] w fun e w' => e = .returned (.int .i64 (used s.fs)) ∧ Below w.heap.size w w' := by
  obtain ⟨c0, c1, c2, c3, c4, cf⟩ := box5 h.2.1
  obtain ⟨A, c, hV, hc⟩ := own_slice h.2.2
  have H := Lib.hid h
  subst hV
  clear cf h c0 c2 c3 c4
  go_enter Try.func27, Try.ntmps27
  go_wp2
  go_loopw [3, 4] (fun n i wr => ∃ k : Nat, k ≤ s.fs.length ∧ i = .int .i64 k ∧ n = .int .i64 (used (s.fs.take k)) ∧ Below w.heap.size w wr) (fun _ i _ => s.fs.length - (intOf i).toNat)
  case atStart => exact ⟨0, Nat.zero_le _, rfl, rfl, Below.refl _ _⟩
  case round =>
    obtain ⟨k, hk, rfl, rfl, hb⟩ := hrel
    have HB := Lib.hid hb
    have d1 := (hb.cell (World.block_lt_of_cell? _ _ c1)).trans c1
    clear hb
    by_cases hlt : k < s.fs.length
    · obtain ⟨g, cap, e, hcap, hg1, hg2, hg3, f0, f1, f2⟩ := H.out.file hlt
      cases e
      have x1 := (HB.out.cell (p := ⟨g, k * 3 + 1, none⟩) hg2).trans f1
      have ht := used_take hlt
      have hle := used_take_le s.fs (k + 1)
      have hwr : IntKind.i64.wrap ((used (s.fs.take k) : Int) + (s.fs[k].data.size : Int)) = (used (s.fs.take k) : Int) + (s.fs[k].data.size : Int) := IntWalk.i64_in _ (by omega)
      have HT := Lib.hid ht
      clear f0 f1 f2 ht hle
      go_wp2
      exact ⟨⟨k + 1, by omega, by go_num, by rw [HT.out]; simp, HB.out⟩, by simp [intOf]; omega⟩
    · obtain rfl : k = s.fs.length := by omega
      rw [List.take_length]
      go_wp2
      go_ret
      exact ⟨rfl, HB.out⟩

end Go.Proofs.Ytdogmcpmlglkfaa
