/- The prover's own library, second part: ranging over a map keyed by strings; the laws at the operations, for the walk. No program in sight. -/
import Derived.Test.YtdogmcpmlglkfaaLib
import Derived.Deep.Draws
namespace Go.Proofs.Ytdogmcpmlglkfaa
open Go.RowKit Go.MapKept
open Go.ChangeMaps (setBlock)

/-- Block r of w is an iterator over the map b, whose entries are m; those that are still to come are left. -/
def RangeL (w : World) (r b : Nat) (m left : List (ByteArray × Value)) : Prop :=
  ∃ es clock since seen c0, w.heap[b]? = some (.map es clock) ∧ Stamped es clock ∧ es.toList.map entv = m.map strv ∧
    w.heap[r]? = some (.mapIter (some b) since seen c0) ∧ (∀ x ∈ es.toList, x.born < since) ∧ since ≤ c0 ∧ since ≤ clock ∧ (leftOf es seen).toList.map entv = left.map strv

theorem RangeL.map {w : World} {r b : Nat} {m left : List (ByteArray × Value)} (h : RangeL w r b m left) : MapL w b m := by
  obtain ⟨es, clock, since, seen, c0, hb, hs, he, _⟩ := h
  exact ⟨es, clock, hb, hs, he⟩

theorem RangeL.lt {w : World} {r b : Nat} {m left : List (ByteArray × Value)} (h : RangeL w r b m left) : r < w.heap.size := by
  obtain ⟨es, clock, since, seen, c0, hb, hs, he, hr, _⟩ := h
  exact (Array.getElem?_eq_some_iff.1 hr).1

theorem RangeL.move {w w' : World} {r b : Nat} {m left : List (ByteArray × Value)} (h : RangeL w r b m left) (hr' : w'.heap[r]? = w.heap[r]?) (hb' : w'.heap[b]? = w.heap[b]?) : RangeL w' r b m left := by
  obtain ⟨es, clock, since, seen, c0, hb, hs, he, hr, hx⟩ := h
  exact ⟨es, clock, since, seen, c0, hb'.trans hb, hs, he, hr'.trans hr, hx⟩

theorem RangeL.fr {S : Nat → Prop} {w w' : World} {r b : Nat} {m left : List (ByteArray × Value)} (h : RangeL w r b m left) (hf : Fr S w w') (h1 : ¬ S r) (h2 : ¬ S b) : RangeL w' r b m left :=
  h.move (hf.block r h.lt h1) (hf.block b h.map.lt h2)

theorem leftOf_empty (es : Array MapEntry) : leftOf es #[] = es := by
  simp [leftOf]

theorem leftOf_push (es : Array MapEntry) (seen : Array Nat) (b : Nat) : (leftOf es (seen.push b)).toList = (leftOf es seen).toList.filter (fun e => decide (e.born ≠ b)) := by
  simp only [leftOf, Array.toList_filter, List.filter_filter]
  congr 1
  funext e
  rw [Bool.eq_iff_iff]
  simp [and_comm]

theorem filter_born_eraseIdx : ∀ {l : List MapEntry} {i : Nat} {e : MapEntry}, (l.map (·.born)).Nodup → l[i]? = some e → l.filter (fun x => decide (x.born ≠ e.born)) = l.eraseIdx i
  | [], i, e, _, h => by simp at h
  | x :: l, 0, e, hn, h => by
    simp only [List.getElem?_cons_zero, Option.some.injEq] at h
    subst h
    simp only [List.map_cons, List.nodup_cons] at hn
    simp only [List.filter_cons, ne_eq, not_true_eq_false, decide_false, Bool.false_eq_true, if_false, List.eraseIdx_zero, List.tail_cons]
    exact List.filter_eq_self.2 fun y hy => by
      have : y.born ≠ x.born := fun (q : y.born = x.born) => hn.1 (q ▸ List.mem_map.2 ⟨y, hy, rfl⟩)
      simpa using this
  | x :: l, i + 1, e, hn, h => by
    simp only [List.getElem?_cons_succ] at h
    simp only [List.map_cons, List.nodup_cons] at hn
    have hmem : e.born ∈ l.map (·.born) := List.mem_map.2 ⟨e, List.mem_of_getElem? h, rfl⟩
    have hne : x.born ≠ e.born := fun q => hn.1 (q ▸ hmem)
    rw [List.filter_cons, if_pos (by simpa using hne), List.eraseIdx_cons_succ, filter_born_eraseIdx hn.2 h]

/-- range m -/
theorem MapL.range {P : Program} {w : World} {b : Nat} {m : List (ByteArray × Value)} (h : MapL w b m) {t K E : TypeId} (ht : P.underlying t = some (.map K E)) :
    ∃ w', (Instr.range t (.map (some b))).run P w = .ok (.pointer (some ⟨w.heap.size, 0, none⟩)) w' ∧ RangeL w' w.heap.size b m m ∧ Fr (fun _ => False) w w' ∧ w'.heap.size = w.heap.size + 1 := by
  have hlt := h.lt
  obtain ⟨es, clock, hb, hs, he⟩ := h
  exact ⟨_, run_range_map w t K E b es clock ht hb, ⟨es, clock, clock, #[], clock, ((MapKept.heap_alloc w _).2 b hlt).trans hb, hs, he, (MapKept.heap_alloc w _).1, hs.1, Nat.le_refl _, Nat.le_refl _, by rw [leftOf_empty]; exact he⟩,
    (Fr.refl _ w).alloc _, by simp⟩

theorem entv_at' {l : List MapEntry} {m : List (ByteArray × Value)} (h : l.map entv = m.map strv) {j : Nat} {e : MapEntry} (hj : l[j]? = some e) : ∃ p, m[j]? = some p ∧ e.key = .string p.1 ∧ e.val = p.2 :=
  entv_at (es := l.toArray) (by simpa using h) (by simpa using hj)

/-- The step. -/
theorem RangeL.next {P : Program} {w : World} {r b : Nat} {m left : List (ByteArray × Value)} (h : RangeL w r b m left) (ty : TypeId) :
    (left = [] ∧ (Instr.next (.pointer (some ⟨r, 0, none⟩)) false ty).run P w = .ok (.tuple #[.bool false]) w) ∨
    ∃ (i : Nat) (p : ByteArray × Value) (w' : World), left[i]? = some p ∧ (Instr.next (.pointer (some ⟨r, 0, none⟩)) false ty).run P w = .ok (.tuple #[.bool true, .string p.1, p.2]) w' ∧
      RangeL w' r b m (left.eraseIdx i) ∧ Fr (fun k => k = r) w w' ∧ w'.heap.size = w.heap.size ∧ (Instr.entry (.pointer (some ⟨r, 0, none⟩))).run P w' = .ok (.tuple #[.string p.1, p.2]) w' := by
  obtain ⟨es, clock, since, seen, c0, hb, hs, he, hr, hold, hsc, hsk, hl⟩ := h
  have hne : r ≠ b := fun q => by subst q; rw [hb] at hr; cases hr
  rcases run_next_at (P := P) w ty r b since c0 seen es clock hr hb hold hsc with ⟨h0, hrun⟩ | ⟨e, hem, w1, hal, hrun⟩
  · refine .inl ⟨?_, hrun⟩
    have := congrArg List.length hl
    simp only [List.length_map, Array.length_toList, h0] at this
    exact List.eq_nil_of_length_eq_zero this.symm
  · obtain ⟨i, hi⟩ := List.getElem?_of_mem hem
    obtain ⟨p, hp, e1, e2⟩ := entv_at' hl hi
    have hes : e ∈ es.toList := by
      simp only [leftOf, Array.toList_filter] at hem
      exact (List.mem_filter.1 hem).1
    have hr1 : w1.heap[r]? = some (.mapIter (some b) since seen c0) := by rcases hal with rfl | rfl <;> exact hr
    have hb1 : w1.heap[b]? = some (.map es clock) := by rcases hal with rfl | rfl <;> exact hb
    have hset := heap_set (o' := .mapIter (some b) since (seen.push e.born) clock) hr1
    have hb' : (setBlock w1 r (.mapIter (some b) since (seen.push e.born) clock)).heap[b]? = some (.map es clock) := (hset.2 b (fun e1 => hne e1.symm)).trans hb1
    have hnd : ((leftOf es seen).toList.map (·.born)).Nodup := by
      have hsub : ((leftOf es seen).toList).Sublist es.toList := by
        simp only [leftOf, Array.toList_filter]
        exact List.filter_sublist
      exact (hsub.map _).nodup hs.2.1
    have hrun' : (Instr.next (.pointer (some ⟨r, 0, none⟩)) false ty).run P w = .ok (.tuple #[.bool true, .string p.1, p.2]) (setBlock w1 r (.mapIter (some b) since (seen.push e.born) clock)) := by
      rw [hrun, e1, e2]
    have hen := run_entry_at (P := P) _ r b since seen es clock e hset.1 hb' hes hs.2.1
    rw [e1, e2] at hen
    refine .inr ⟨i, p, _, hp, hrun', ⟨es, clock, since, seen.push e.born, clock, hb', hs, he, hset.1, hold, hsk, hsk, ?_⟩, ?_, ?_, hen⟩
    · rw [leftOf_push, filter_born_eraseIdx hnd hi, map_eraseIdx, map_eraseIdx, hl]
    · rcases hal with rfl | rfl <;> exact ⟨rfl, rfl, rfl, by simp [setBlock], fun i _ hi => hset.2 i hi⟩
    · rcases hal with rfl | rfl <;> simp [setBlock]

theorem eraseIdx_perm {α : Type} : ∀ {l : List α} {i : Nat} {p : α}, l[i]? = some p → (p :: l.eraseIdx i).Perm l
  | [], i, p, h => by simp at h
  | x :: l, 0, p, h => by
    simp only [List.getElem?_cons_zero, Option.some.injEq] at h
    subst h
    simp
  | x :: l, i + 1, p, h => by
    simp only [List.getElem?_cons_succ] at h
    rw [List.eraseIdx_cons_succ]
    exact (List.Perm.swap x p _).trans ((eraseIdx_perm h).cons x)

/-! ### the laws at the operations, for the walk -/
section
variable {P : Program} (w : World) {ops : Array Oper} {rest : List Oper} {o : Oper} {a : Act} {Q : Exit → Act → World → Prop}

theorem wpList_lookup_L (hg : o.guard = none) (m x : Operand) (t : TypeId) (c : Bool) (hop : o.op = Op.lookup t m x c) (K E : TypeId) (ht : P.underlying t = some (.map K E)) (hK : P.underlying K = some .string) (z : Value) (hz : (zeroValue E).run P w = .ok z w)
    (b : Nat) (l : List (ByteArray × Value)) (hm : a.eval m = .map (some b)) (hl : MapL w b l) (k : ByteArray) (hx : a.eval x = .string k)
    (hk : wpList P ops Q rest (a.put o.dst (if c then .tuple #[(mget l k).getD z, .bool (mhas l k)] else (mget l k).getD z)) w) :
    wpList P ops Q (o :: rest) a w := by
  refine wpList_plain hg fun K' hK' => ?_
  unfold Oper.wp
  simp [execOp, hop, hm, hx, hl.lookup ht hK hz k c, Result.andThen]
  exact hK' _ _ hk

theorem wpList_mapUpdate_L (hg : o.guard = none) (m x v : Operand) (t : TypeId) (hop : o.op = Op.mapUpdate t m x v) (K E : TypeId) (ht : P.underlying t = some (.map K E)) (hK : P.underlying K = some .string)
    (b : Nat) (l : List (ByteArray × Value)) (hm : a.eval m = .map (some b)) (hl : MapL w b l) (k : ByteArray) (u : Value) (hx : a.eval x = .string k) (hv : a.eval v = u)
    (hk : ∀ w', MapL w' b (mput l k u) → w.grownBy w' (some b) → w'.heap.size = w.heap.size → wpList P ops Q rest (a.put o.dst undef) w') :
    wpList P ops Q (o :: rest) a w := by
  refine wpList_plain hg fun K' hK' => ?_
  obtain ⟨w', hrun, r1, r2, r3⟩ := hl.update ht hK k u
  unfold Oper.wp
  simp [execOp, hop, hm, hx, hv, hrun, Result.andThen]
  exact hK' _ _ (hk w' r1 r2 r3)

theorem wpList_delete_L (hg : o.guard = none) (m x : Operand) (t K : TypeId) (hop : o.op = Op.call { callee := Callee.builtin Builtin.delete, args := #[m, x], argTypes := #[t, K] }) (E : TypeId) (ht : P.underlying t = some (.map K E)) (hK : P.underlying K = some .string)
    (b : Nat) (l : List (ByteArray × Value)) (hm : a.eval m = .map (some b)) (hl : MapL w b l) (k : ByteArray) (hx : a.eval x = .string k)
    (hk : ∀ w', MapL w' b (mdel l k) → w.grownBy w' (some b) → w'.heap.size = w.heap.size → wpList P ops Q rest (a.put o.dst (.tuple #[])) w') :
    wpList P ops Q (o :: rest) a w := by
  refine wpList_plain hg fun K' hK' => ?_
  obtain ⟨w', hrun, r1, r2, r3⟩ := hl.delete ht hK k o.type
  unfold Oper.wp
  simp [execOp, hop, resolve, invoke, builtin, hm, hx, hrun, Result.andThen]
  exact hK' _ _ (hk w' r1 r2 r3)

theorem wpList_len_L (hg : o.guard = none) (m : Operand) (t : TypeId) (hop : o.op = Op.call { callee := Callee.builtin Builtin.len, args := #[m], argTypes := #[t] }) (K E : TypeId) (ht : P.underlying t = some (.map K E))
    (b : Nat) (l : List (ByteArray × Value)) (hm : a.eval m = .map (some b)) (hl : MapL w b l)
    (hk : wpList P ops Q rest (a.put o.dst (.int .i64 l.length)) w) :
    wpList P ops Q (o :: rest) a w := by
  refine wpList_plain hg fun K' hK' => ?_
  unfold Oper.wp
  simp [execOp, hop, resolve, invoke, builtin, hm, hl.len ht o.type, Result.andThen]
  exact hK' _ _ hk

theorem wpList_range_L (hg : o.guard = none) (m : Operand) (t : TypeId) (hop : o.op = Op.range t m) (K E : TypeId) (ht : P.underlying t = some (.map K E))
    (b : Nat) (l : List (ByteArray × Value)) (hm : a.eval m = .map (some b)) (hl : MapL w b l)
    (hk : ∀ w', RangeL w' w.heap.size b l l → Fr (fun _ => False) w w' → w'.heap.size = w.heap.size + 1 → wpList P ops Q rest (a.put o.dst (.pointer (some ⟨w.heap.size, 0, none⟩))) w') :
    wpList P ops Q (o :: rest) a w := by
  refine wpList_plain hg fun K' hK' => ?_
  obtain ⟨w', hrun, r1, r2, r3⟩ := hl.range ht
  unfold Oper.wp
  simp [execOp, hop, hm, hrun, Result.andThen]
  exact hK' _ _ (hk w' r1 r2 r3)

theorem wpList_next_L (hg : o.guard = none) (it : Operand) (hop : o.op = Op.next it false) (r b : Nat) (m left : List (ByteArray × Value)) (hit : a.eval it = .pointer (some ⟨r, 0, none⟩)) (h : RangeL w r b m left)
    (hDone : left = [] → wpList P ops Q rest (a.put o.dst (.tuple #[.bool false])) w)
    (hMore : ∀ (i : Nat) (k : ByteArray) (v : Value) (w' : World), left[i]? = some (k, v) → RangeL w' r b m (left.eraseIdx i) → Fr (fun k => k = r) w w' → w'.heap.size = w.heap.size →
      (Instr.entry (.pointer (some ⟨r, 0, none⟩))).run P w' = .ok (.tuple #[.string k, v]) w' → wpList P ops Q rest (a.put o.dst (.tuple #[.bool true, .string k, v])) w') :
    wpList P ops Q (o :: rest) a w := by
  refine wpList_plain hg fun K' hK' => ?_
  unfold Oper.wp
  rcases h.next (P := P) o.type with ⟨h0, hrun⟩ | ⟨i, p, w', hp, hrun, hrg, hfr, hsz, hen⟩
  · simp [execOp, hop, hit, hrun, Result.andThen]
    exact hK' _ _ (hDone h0)
  · simp [execOp, hop, hit, hrun, Result.andThen]
    exact hK' _ _ (hMore i p.1 p.2 w' hp hrg hfr hsz hen)

end

end Go.Proofs.Ytdogmcpmlglkfaa
