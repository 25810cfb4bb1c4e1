/- Walks of package wait: the room's representation in memory; New, Len, find, Has. -/
import Derived.Test.YtaecjkffemmpcaaProg
import Derived.Test.YtaecjkffemmpcaaLib2
import Derived.Deep.QuietTactic
import Derived.BigQuiet
import Derived.Lib.Hide
namespace Go.Proofs.Ytaecjkffemmpcaa
open Go.RowKit

structure WItem where
  id : ByteArray
  text : ByteArray
  miss : List ByteArray

def wcells : List WItem → List Nat → List Value
  | x :: l, r :: rs => .string x.id :: .string x.text :: .map (some r) :: wcells l rs
  | _, _ => []

def mset (l : List ByteArray) : List (ByteArray × Value) := l.map fun s => (s, .bool true)

/-- Block p is a room: its places, who waits; of the blocks of F. -/
def WRep (w : World) (F : Nat → Prop) (p : Nat) (places : Int) (l : List WItem) : Prop :=
  ∃ v rs, w.heap[p]? = some (.cells #[.int .i64 places, v] 54) ∧ F p ∧ (∀ k, v.ownBlock = some k → F k ∧ k ≠ p) ∧
    w.ownsRow 0 57 3 v l.length (wcells l rs) ∧ rs.length = l.length ∧ rs.Nodup ∧
    (∀ (i r : Nat) (x : WItem), rs[i]? = some r → l[i]? = some x → F r ∧ MapL w r (mset x.miss))

theorem eqs (a b : ByteArray) : (a.toList == b.toList) = decide (a = b) := by
  rw [ByteArray.toList_eq, ByteArray.toList_eq, Bool.eq_iff_iff]
  simp only [beq_iff_eq, decide_eq_true_eq]
  exact ⟨fun h => WideShapes.bytes_inj h, fun h => by rw [h]⟩

/-- The row of those who wait, at the slice (A, n): each one's cells. -/
def WRow (w : World) (A : Option Addr) (l : List WItem) (rs : List Nat) : Prop :=
  ∀ (k : Nat) (x : WItem), l[k]? = some x → ∃ g r : Nat, A = some ⟨g, 0, none⟩ ∧ rs[k]? = some r ∧ g < w.heap.size ∧
    w.cell? ⟨g, k * 3, none⟩ = some (.string x.id) ∧ w.cell? ⟨g, k * 3 + 1, none⟩ = some (.string x.text) ∧ w.cell? ⟨g, k * 3 + 2, none⟩ = some (.map (some r))

theorem wcells_at : ∀ {l : List WItem} {rs : List Nat} {k : Nat} {x : WItem}, l[k]? = some x → rs.length = l.length → ∃ r, rs[k]? = some r ∧
    (wcells l rs)[k * 3]? = some (.string x.id) ∧ (wcells l rs)[k * 3 + 1]? = some (.string x.text) ∧ (wcells l rs)[k * 3 + 2]? = some (.map (some r))
  | [], rs, k, x, h, _ => by simp at h
  | y :: l, [], k, x, h, hl => by simp at hl
  | y :: l, r :: rs, 0, x, h, hl => by
    simp only [List.getElem?_cons_zero, Option.some.injEq] at h
    subst h
    exact ⟨r, rfl, rfl, rfl, rfl⟩
  | y :: l, r :: rs, k + 1, x, h, hl => by
    simp only [List.getElem?_cons_succ] at h
    simp only [List.length_cons, Nat.add_right_cancel_iff] at hl
    obtain ⟨r', h1, h2, h3, h4⟩ := wcells_at h hl
    refine ⟨r', by simpa using h1, ?_, ?_, ?_⟩
    · rw [show (k + 1) * 3 = k * 3 + 1 + 1 + 1 by omega]; simpa [wcells] using h2
    · rw [show (k + 1) * 3 + 1 = k * 3 + 1 + 1 + 1 + 1 by omega]; simpa [wcells] using h3
    · rw [show (k + 1) * 3 + 2 = k * 3 + 2 + 1 + 1 + 1 by omega]; simpa [wcells] using h4

theorem wcells_length : ∀ {l : List WItem} {rs : List Nat}, rs.length = l.length → (wcells l rs).length = l.length * 3
  | [], [], _ => rfl
  | [], _ :: _, h => by simp at h
  | _ :: _, [], h => by simp at h
  | x :: l, r :: rs, h => by
    simp only [List.length_cons, Nat.add_right_cancel_iff] at h
    simp [wcells, wcells_length h]
    omega

theorem WRow.of_owns {w : World} {v : Value} {l : List WItem} {rs : List Nat} {B : Nat} (h : w.ownsRow B 57 3 v l.length (wcells l rs)) (hl : rs.length = l.length) :
    ∃ A c, v = .slice A l.length c ∧ l.length ≤ c ∧ WRow w A l rs := by
  have hc := fun g (hg : v.ownBlock = some g) => h.cells hg
  have hlt := h.lt
  rcases h.2 with ⟨rfl, h0⟩ | ⟨g, cap, cur, rfl, hb, hg, hn, hm, hs, ht⟩
  · refine ⟨none, 0, by rw [h0], by omega, fun k x hx => ?_⟩
    have := (List.getElem?_eq_some_iff.1 hx).1
    omega
  · refine ⟨_, _, rfl, hn, fun k x hx => ?_⟩
    obtain ⟨r, h1, h2, h3, h4⟩ := wcells_at hx hl
    have ha : ∀ j, (⟨g, 0, none⟩ : Addr).add j = ⟨g, j, none⟩ := fun j => by unfold Addr.add; split <;> simp_all
    have hcg := hc g (by simp [Value.ownBlock])
    refine ⟨g, r, rfl, h1, (hlt g (by simp [Value.ownBlock])).2, ?_, ?_, ?_⟩
    · have := hcg _ _ h2; rwa [ha] at this
    · have := hcg _ _ h3; rwa [ha] at this
    · have := hcg _ _ h4; rwa [ha] at this

theorem WRow.below {w w' : World} {A : Option Addr} {l : List WItem} {rs : List Nat} (h : WRow w A l rs) (hb : Below w.heap.size w w') : WRow w' A l rs := by
  intro k x hx
  obtain ⟨g, r, h1, h2, h3, h4, h5, h6⟩ := h k x hx
  exact ⟨g, r, h1, h2, Nat.lt_of_lt_of_le h3 hb.size, (hb.cell (p := ⟨g, _, none⟩) h3).trans h4, (hb.cell (p := ⟨g, _, none⟩) h3).trans h5, (hb.cell (p := ⟨g, _, none⟩) h3).trans h6⟩

def findIx (l : List WItem) (id : ByteArray) : Int := match l.findIdx? (fun x => decide (x.id = id)) with | some i => (i : Int) | none => -1

theorem findIx_hit {l : List WItem} {id : ByteArray} {k : Nat} {x : WItem} (hk : l[k]? = some x) (he : x.id = id) (h : ∀ j y, j < k → l[j]? = some y → y.id ≠ id) : findIx l id = k := by
  have : l.findIdx? (fun x => decide (x.id = id)) = some k := by
    obtain ⟨hlt, e⟩ := List.getElem?_eq_some_iff.1 hk
    rw [List.findIdx?_eq_some_iff_getElem]
    exact ⟨hlt, by rw [e]; simpa using he, fun j hj => by simpa using h j _ hj (List.getElem?_eq_getElem (by omega))⟩
  simp [findIx, this]

theorem findIx_miss {l : List WItem} {id : ByteArray} (h : ∀ (j : Nat) (y : WItem), l[j]? = some y → y.id ≠ id) : findIx l id = -1 := by
  have : l.findIdx? (fun x => decide (x.id = id)) = none := by
    rw [List.findIdx?_eq_none_iff]
    intro x hx
    obtain ⟨j, hj⟩ := List.getElem?_of_mem hx
    simpa using h j x hj
  simp [findIx, this]

set_option maxHeartbeats 400000 in
theorem find1_any (s t id : ByteArray) (m : Option Nat) (cb : Nat) (w : World) (hcb : cb < w.heap.size) (hc : w.cell? ⟨cb, 0, none⟩ = some (.string id)) :
    Calls Try.prog 30 #[.agg #[.string s, .string t, .map m], .pointer (some ⟨cb, 0, none⟩)] w fun e w' => e = .returned (.bool (decide (s = id))) ∧ Below w.heap.size w w' := by
  go_enter Try.func30, Try.ntmps30
  go_wp2
  go_ret
  exact ⟨by rw [← eqs]; rfl, (Below.refl _ _).alloc (Nat.le_refl _) _⟩

set_option maxHeartbeats 400000 in
theorem indexFunc_any (A : Option Addr) (c : Nat) (l : List WItem) (rs : List Nat) (w : World) (cb : Nat) (id : ByteArray) (hm : l.length ≤ maxLen) (hrow : WRow w A l rs) (hcb : cb < w.heap.size) (hc : w.cell? ⟨cb, 0, none⟩ = some (.string id)) :
    Calls Try.prog 29 #[.slice A l.length c, .func (.func 30) #[] #[.pointer (some ⟨cb, 0, none⟩)]] w fun e w' =>
      e = .returned (.int .i64 (findIx l id)) ∧ Below w.heap.size w w' := by
  unfold maxLen at hm
  go_enter Try.func29, Try.ntmps29
  go_wp2
  go_loopw [8] (fun i wr => ∃ k : Nat, k ≤ l.length ∧ i = .int .i64 k ∧ Below w.heap.size w wr ∧ ∀ j y, j < k → l[j]? = some y → y.id ≠ id) (fun i _ => l.length - (intOf i).toNat)
  case atStart => exact ⟨0, Nat.zero_le _, rfl, Below.refl _ _, fun j y h => by omega⟩
  case round =>
    obtain ⟨k, hk, rfl, hb, hno⟩ := hrel
    have HNO := Lib.hid hno
    clear hno
    by_cases hlt : k < l.length
    · obtain ⟨g, r, rfl, h1, h2, h3, h4, h5⟩ := hrow k l[k] (List.getElem?_eq_getElem hlt)
      have k3 := (hb.cell (p := ⟨g, _, none⟩) h2).trans h3
      have k4 := (hb.cell (p := ⟨g, _, none⟩) h2).trans h4
      have k5 := (hb.cell (p := ⟨g, _, none⟩) h2).trans h5
      have kc := (hb.cell (p := ⟨cb, 0, none⟩) hcb).trans hc
      have hcb' := Nat.lt_of_lt_of_le hcb hb.size
      clear h1 h3 h4 h5
      by_cases he : l[k].id = id
      · have HE := Lib.hid he
        have hd : decide (l[k].id = id) = true := by simpa using he
        clear he
        go_wp2_with (go_at_call 30; refine (find1_any _ _ _ _ _ _ (by assumption) (by assumption)).mono ?_; rintro e w' ⟨rfl, hb'⟩)
        go_ret
        exact ⟨by rw [findIx_hit (List.getElem?_eq_getElem hlt) HE.out HNO.out]; rfl, hb.trans (hb'.mono hb.size)⟩
      · have HE := Lib.hid he
        have hd : decide (l[k].id = id) = false := by simpa using he
        clear he
        go_wp2_with (go_at_call 30; refine (find1_any _ _ _ _ _ _ (by assumption) (by assumption)).mono ?_; rintro e w' ⟨rfl, hb'⟩)
        go_roundw
        case rel => exact ⟨k + 1, by omega, by go_num, hb.trans (hb'.mono hb.size), fun j y hj hy => by
          by_cases e : j = k
          · subst e
            rw [List.getElem?_eq_getElem hlt] at hy
            cases hy
            exact HE.out
          · exact HNO.out j y (by omega) hy⟩
        case measure => simp [intOf]; omega
    · go_wp2_with fail
      go_ret
      exact ⟨by rw [findIx_miss (fun j y hy => HNO.out j y (by have := (List.getElem?_eq_some_iff.1 hy).1; omega) hy)]; rfl, hb⟩

end Go.Proofs.Ytaecjkffemmpcaa
