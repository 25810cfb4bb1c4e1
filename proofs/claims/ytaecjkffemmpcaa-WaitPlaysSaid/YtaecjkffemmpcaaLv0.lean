/- WaitLeaves: the plain laws; no program in sight. -/
import Derived.Test.YtaecjkffemmpcaaPut
namespace Go.Proofs.Ytaecjkffemmpcaa
open Go.RowKit Go.Proofs.YtaecjkffemmpcaaW.PrintWords Go.Proofs.Ytaecjkffemmpcaa.PRef

def puts (l : List ActS) (k : Nat) : List WItem := (l.take k).foldl (fun s a => (putP 300 s a.f1 a.f2 a.f3).2) []

theorem puts_succ {l : List ActS} {k : Nat} (h : k < l.length) : puts l (k + 1) = (putP 300 (puts l k) l[k].f1 l[k].f2 l[k].f3).2 := by
  rw [puts, List.take_succ_eq_append_getElem h, List.foldl_append]
  rfl

theorem puts_length {l : List ActS} : ∀ {k : Nat}, k ≤ l.length → (puts l k).length ≤ k
  | 0, _ => by simp [puts]
  | k + 1, h => by
    rw [puts_succ (by omega)]
    have := putP_length 300 (puts l k) l[k].f1 l[k].f2 l[k].f3
    have := puts_length (l := l) (k := k) (by omega)
    omega

def allM (l : List ActS) (k : Nat) : List ByteArray := (l.take k).flatMap (·.f3)

theorem allM_succ {l : List ActS} {k : Nat} (h : k < l.length) : allM l (k + 1) = allM l k ++ l[k].f3 := by
  rw [allM, List.take_succ_eq_append_getElem h, List.flatMap_append]
  simp [allM]

theorem allM_length {l : List ActS} (hs : ∀ x ∈ l, x.f3.length ≤ 60) : ∀ {k : Nat}, k ≤ l.length → (allM l k).length ≤ k * 60
  | 0, _ => by simp [allM]
  | k + 1, h => by
    rw [allM_succ (by omega), List.length_append]
    have := allM_length (l := l) hs (k := k) (by omega)
    have := hs l[k] (List.getElem_mem (by omega))
    omega

theorem puts_inv {l : List ActS} : ∀ {k : Nat}, k ≤ l.length → ∀ x ∈ puts l k, x.miss ≠ [] ∧ ∀ s ∈ x.miss, s ∈ allM l k
  | 0, _ => by simp [puts]
  | k + 1, h => by
    have hlt : k < l.length := by omega
    have ih := puts_inv (l := l) (k := k) (by omega)
    rw [puts_succ hlt, allM_succ hlt]
    have old : ∀ x ∈ puts l k, x.miss ≠ [] ∧ ∀ s ∈ x.miss, s ∈ allM l k ++ l[k].f3 := fun x hx => ⟨(ih x hx).1, fun s hs => List.mem_append_left _ ((ih x hx).2 s hs)⟩
    unfold putP
    split
    · exact old
    · rename_i h0
      split
      · exact old
      · split
        · exact old
        · intro x hx
          simp only [List.mem_append, List.mem_singleton] at hx
          rcases hx with hx | rfl
          · exact old x hx
          · refine ⟨fun e => ?_, fun s hs => List.mem_append_right _ ((addAll_mem _ _).1 hs)⟩
            obtain ⟨y, ys, hy⟩ : ∃ y ys, l[k].f3 = y :: ys := by
              cases hc : l[k].f3 with
              | nil => rw [hc] at h0; exact absurd rfl h0
              | cons y ys => exact ⟨y, ys, rfl⟩
            have hm : y ∈ addAll l[k].f3 := (addAll_mem _ _).2 (by rw [hy]; simp)
            simp only at e
            rw [e] at hm
            cases hm

theorem goes_stay_length (s : ByteArray) : ∀ lw : List WItem, (lw.filterMap (goes s)).length + (lw.filterMap (stay s)).length = lw.length
  | [] => rfl
  | x :: lw => by
    have ih := goes_stay_length s lw
    by_cases h : (strip s x.miss).isEmpty
    · have e1 : goes s x = some (x.id, x.text) := by rw [goes, if_pos h]
      have e2 : stay s x = none := by rw [stay, if_pos h]
      rw [List.filterMap_cons_some e1, List.filterMap_cons_none e2]
      simp only [List.length_cons]
      omega
    · have e1 : goes s x = none := by rw [goes, if_neg h]
      have e2 : stay s x = some { x with miss := strip s x.miss } := by rw [stay, if_neg h]
      rw [List.filterMap_cons_none e1, List.filterMap_cons_some e2]
      simp only [List.length_cons]
      omega

theorem strip_mem (s : ByteArray) (m : List ByteArray) (t : ByteArray) : t ∈ strip s m ↔ t ∈ m ∧ t ≠ s := by simp [strip]

theorem strip_lt {s : ByteArray} {m : List ByteArray} (h : s ∈ m) : (strip s m).length < m.length := by
  unfold strip
  induction m with
  | nil => cases h
  | cons y m ih =>
    rw [List.filter_cons]
    by_cases hy : y = s
    · rw [if_neg (by simp [hy])]
      have := List.length_filter_le (fun t => decide (t ≠ s)) m
      simp only [List.length_cons]
      omega
    · have hm : s ∈ m := by
        rcases List.mem_cons.1 h with e | e
        · exact absurd e.symm hy
        · exact e
      rw [if_pos (by simp [hy])]
      simp only [List.length_cons]
      have := ih hm
      omega

theorem stay_inv {al : List ByteArray} {lw : List WItem} (s : ByteArray) (h : ∀ x ∈ lw, x.miss ≠ [] ∧ ∀ t ∈ x.miss, t ∈ al) : ∀ x ∈ lw.filterMap (stay s), x.miss ≠ [] ∧ ∀ t ∈ x.miss, t ∈ strip s al := by
  intro x hx
  obtain ⟨y, hy, e⟩ := List.mem_filterMap.1 hx
  unfold stay at e
  split at e
  · cases e
  · rename_i hn
    cases e
    refine ⟨fun e => hn (by simp only at e; rw [e]; rfl), fun t ht => ?_⟩
    obtain ⟨h1, h2⟩ := (strip_mem _ _ _).1 ht
    exact (strip_mem _ _ _).2 ⟨(h y hy).2 t h1, h2⟩

end Go.Proofs.Ytaecjkffemmpcaa
