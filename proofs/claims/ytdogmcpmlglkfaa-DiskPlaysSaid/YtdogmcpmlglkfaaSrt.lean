/- The prover's own library, third part: a map of MapL in the kit's word 'ownsMap', and its sorted keys as byte strings. No program in sight. -/
import Derived.Test.YtdogmcpmlglkfaaLib2
import Derived.Shelf.SlIter.Nil
import Derived.Shelf.SortM.Plain
import Derived.Shelf.SortM.SortNone
namespace Go.Proofs.Ytdogmcpmlglkfaa
open Go.RowKit Go.MapKept Go.Maps Go.Sort Go.Shelf

/-- Every value reads as itself. -/
def heldR (v : Value) : Option (DataW Value × List MemPlace) := some (.held v, [])

theorem toL_ofL (x : List UInt8) : (⟨x.toArray⟩ : ByteArray).data.toList = x := rfl
theorem ofL_toL (s : ByteArray) : (⟨s.data.toList.toArray⟩ : ByteArray) = s := by cases s; rfl

theorem MapL.owns {P : Program} {K : TypeId} (hK : P.underlying K = some .string) {w : World} {b : Nat} {m : List (ByteArray × Value)} (h : MapL w b m) (hk : ∀ p ∈ m, p.1.size ≤ maxLen) (hl : m.length ≤ maxLen) :
    ∃ D : DataW Value, w.ownsMap P K heldR b m.length D ∧ (strKeys D).Perm (m.map fun p => p.1.data.toList) ∧ Maps.size D = m.length := by
  obtain ⟨es, clock, hb, hs, he⟩ := h
  have hlen : es.size = m.length := by have := congrArg List.length he; simpa using this
  have hrd : ∀ x ∈ es.toList, ∃ p ∈ m, x.key = .string p.1 ∧ WideElems.rd P K heldR x = some (.string p.1.data.toList, .held x.val) := by
    intro x hx
    obtain ⟨j, hj⟩ := List.getElem?_of_mem hx
    obtain ⟨p, hp, e1, e2⟩ := entv_at he hj
    have hpm := List.mem_of_getElem? hp
    refine ⟨p, hpm, e1, ?_⟩
    have hkey : keyOf P K x.key = some (.string p.1.data.toList) := by
      rw [e1]
      simp [keyOf, hK, mapKey, hk p hpm]
    cases x
    exact WideElems.rd_mk (yv := (.held _, [])) hkey rfl
  have hfit : WideElems.Fit P K heldR es clock := ⟨by omega, hs, fun x hx => let ⟨p, _, _, h⟩ := hrd x hx; ⟨_, h⟩⟩
  refine ⟨_, ⟨es, clock, hb, hfit, by omega, rfl⟩, ?_, ?_⟩
  · have hperm := (WideShapes.sorted_perm (es.toList.map (WideElems.rg P K heldR))).map (fun p => strOf p.1)
    refine hperm.trans ?_
    have e : (es.toList.map (WideElems.rg P K heldR)).map (fun p => strOf p.1) = m.map fun p => p.1.data.toList := by
      apply List.ext_getElem?
      intro i
      simp only [List.getElem?_map, Array.getElem?_toList]
      cases hi : es[i]? with
      | none =>
        have : m[i]? = none := by
          rw [List.getElem?_eq_none_iff]
          have := Array.getElem?_eq_none_iff.1 hi
          omega
        simp [this]
      | some x =>
        have hj : es.toList[i]? = some x := by simpa using hi
        obtain ⟨p, hp, e1, e2⟩ := entv_at he hj
        obtain ⟨p', hp', e1', hr⟩ := hrd x (List.mem_of_getElem? hj)
        rw [e1] at e1'
        simp only [Value.string.injEq] at e1'
        rw [hp]
        simp only [Option.map_some, WideElems.rg_of hr, e1']
        rfl
    rw [e]
  · show ((es.toList.map (WideElems.rg P K heldR)).foldr DataW.insert []).length = m.length
    rw [length_sorted]
    simpa using hlen

theorem leB_trans (a b c : List UInt8) (h : leB a b = true) (k : leB b c = true) : leB a c = true := by
  simp only [leB, decide_eq_true_eq] at *
  exact Std.le_trans h k

theorem leB_total (a b : List UInt8) : (leB a b || leB b a) = true := by
  simp only [leB, Bool.or_eq_true, decide_eq_true_eq]
  exact Std.le_total

/-- Rising, by Go's order of strings. -/
def Rising (l : List ByteArray) : Prop := l.Pairwise fun a b => a.data.toList ≤ b.data.toList

/-- The sorted keys, as byte strings. -/
theorem sorted_keys {m : List (ByteArray × Value)} {ss : List (List UInt8)} {D : DataW Value} (h : ss.Perm (strKeys D)) (hD : (strKeys D).Perm (m.map fun p => p.1.data.toList)) :
    ∃ r : List ByteArray, r.Perm (m.map (·.1)) ∧ Rising r ∧ (ss.mergeSort (fun x y => decide (x ≤ y))).map encStr = r.map Value.string ∧ r.length = ss.length := by
  refine ⟨(ss.mergeSort (fun x y => decide (x ≤ y))).map fun x => ⟨x.toArray⟩, ?_, ?_, ?_, by simp⟩
  · have h1 := ((List.mergeSort_perm ss (fun x y => decide (x ≤ y))).trans (h.trans hD)).map (fun x : List UInt8 => (⟨x.toArray⟩ : ByteArray))
    refine h1.trans ?_
    rw [List.map_map]
    have : (fun x : List UInt8 => (⟨x.toArray⟩ : ByteArray)) ∘ (fun p : ByteArray × Value => p.1.data.toList) = fun p => p.1 := by
      funext p
      exact ofL_toL p.1
    rw [this]
  · unfold Rising
    rw [List.pairwise_map]
    exact (List.pairwise_mergeSort (le := leB) leB_trans leB_total ss).imp fun {a b} h => by simpa [leB] using h
  · rw [List.map_map]
    rfl

end Go.Proofs.Ytdogmcpmlglkfaa
