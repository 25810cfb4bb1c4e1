/- The prover's own library, fifth part: appending a row of texts that is read. No program in sight. -/
import Derived.Test.YtdogmcpmlglkfaaWWords
import Derived.Test.YtdogmcpmlglkfaaLib2
namespace Go.Proofs.Ytdogmcpmlglkfaa
open Go.RowKit Go.Proofs.YtdogmcpmlglkfaaW.PrintWords

theorem strs_cell {w : World} {ad : Addr} {n : Nat} {ys : List ByteArray} (h : Kd.C Kd.string w (some ad) n ys) : ∀ j u, (ys.map Value.string)[j]? = some u → w.cell? (ad.add j) = some u := by
  intro j u hu
  obtain ⟨hl, hn, hr⟩ := h
  simp only [List.getElem?_map, Option.map_eq_some_iff] at hu
  obtain ⟨s, hs, rfl⟩ := hu
  have hj := (List.getElem?_eq_some_iff.1 hs).1
  obtain ⟨ad', e, hc⟩ := hr (by omega)
  cases e
  obtain ⟨c, _, hk, hcell⟩ := hc j s hs
  have : c = [.string s] := hk
  subst this
  have e1 : j * Kd.string.sz + 0 = j := by show j * 1 + 0 = j; omega
  have := hcell 0 _ rfl
  rwa [e1] at this

theorem run_append_strs {P : Program} (w : World) (base : Nat) (t ty e : TypeId) (i : TypeInfo) (ht : P.underlying t = some (.slice e)) (hi : P.info? e = some i) (hz : i.zero = some (.string ⟨#[]⟩)) (hsize : i.size = 1) (hby : i.bytes = 16)
    (v : Value) (xs ys : List ByteArray) (hown : w.ownsRow base e 1 v xs.length (xs.map Value.string)) (A : Option Addr) (c : Nat) (hr : Kd.C Kd.string w A ys.length ys) (hl : xs.length + ys.length ≤ 1000000) (hbase : base ≤ w.heap.size) :
    ∃ v' w', (Builtin.append_ #[t, t] ty #[v, .slice A ys.length c]).run P w = .ok v' w' ∧ w'.ownsRow base e 1 v' (xs ++ ys).length ((xs ++ ys).map Value.string) ∧ w.grownBy w' v.ownBlock ∧ (v'.ownBlock = v.ownBlock ∨ v'.ownBlock = some w.heap.size) := by
  rcases A with _ | ad
  · have h0 : ys.length = 0 := by
      rcases Nat.eq_zero_or_pos ys.length with h0 | h0
      · exact h0
      · obtain ⟨ad, h, _⟩ := hr.2.2 h0
        cases h
    obtain rfl : ys = [] := List.eq_nil_of_length_eq_zero h0
    refine ⟨v, w, ?_, by simpa using hown, ⟨rfl, rfl, rfl, Nat.le_refl _, fun _ _ _ => rfl⟩, .inl rfl⟩
    rcases hown.2 with ⟨rfl, hn⟩ | ⟨g, cap, cur, rfl, _, _, hnc, _⟩
    · simp [Builtin.append_, run_underlying ht, sizeOf, typeInfo, hi, Builtin.lenOf, Builtin.firstCells]
    · simp [Builtin.append_, run_underlying ht, sizeOf, typeInfo, hi, Builtin.lenOf, Builtin.firstCells, hnc, storeCells]
  · obtain ⟨v', w', hrun, h2, h3, _, h5⟩ := run_append_own_at (P := P) w base t ty e i (.string ⟨#[]⟩) 1 16 ht hi hz hsize hby rfl (by omega) v xs.length (xs.map Value.string) hown ad ys.length c (ys.map Value.string) (by simp) (strs_cell hr)
      (by intro u hu; simp only [List.mem_map] at hu; obtain ⟨q, _, rfl⟩ := hu; rfl) (by simp only [maxLen]; omega) (by omega) hbase
    refine ⟨v', w', hrun, ?_, h3, h5⟩
    rw [List.length_append, List.map_append]
    exact h2

theorem wpList_append_strs {P : Program} (w : World) {ops : Array Oper} {rest : List Oper} {o : Oper} {a : Act} {Q : Exit → Act → World → Prop} (hgd : o.guard = none) (s x : Operand) (t : TypeId)
    (ho : o.op = .call { callee := .builtin .append, args := #[s, x], argTypes := #[t, t] })
    (base : Nat) (e : TypeId) (i : TypeInfo) (ht : P.underlying t = some (.slice e)) (hi : P.info? e = some i) (hz : i.zero = some (.string ⟨#[]⟩)) (hsize : i.size = 1) (hby : i.bytes = 16)
    (v : Value) (xs ys : List ByteArray) (hs : a.eval s = v) (hown : w.ownsRow base e 1 v xs.length (xs.map Value.string)) (A : Option Addr) (c : Nat) (hx : a.eval x = .slice A ys.length c) (hr : Kd.C Kd.string w A ys.length ys) (hl : xs.length + ys.length ≤ 1000000) (hbase : base ≤ w.heap.size)
    (h : ∀ v' w', w'.ownsRow base e 1 v' (xs ++ ys).length ((xs ++ ys).map Value.string) → w.grownBy w' v.ownBlock → (v'.ownBlock = v.ownBlock ∨ v'.ownBlock = some w.heap.size) → wpList P ops Q rest (a.put o.dst v') w') :
    wpList P ops Q (o :: rest) a w := by
  refine wpList_plain hgd fun K hK => ?_
  obtain ⟨v', w', hrun, h2, h3, h5⟩ := run_append_strs (P := P) w base t o.type e i ht hi hz hsize hby v xs ys hown A c hr hl hbase
  unfold Oper.wp execOp
  simp only [ho, resolve, invoke, builtin, Sem.run_bind, Sem.run_pure, Result.andThen_ok, List.map_toArray, List.map_cons, List.map_nil, hs, hx, hrun]
  exact hK _ _ (h v' w' h2 h3 h5)

/-- A row of texts of the call's own is read. -/
theorem own_read {w : World} {base : Nat} {e : TypeId} {v : Value} {xs : List ByteArray} (h : w.ownsRow base e 1 v xs.length (xs.map Value.string)) (hl : xs.length ≤ 1000000) :
    ∃ A c, v = .slice A xs.length c ∧ xs.length ≤ c ∧ Kd.C Kd.string w A xs.length xs ∧ (∀ ad, A = some ad → v.ownBlock = some ad.block) := by
  have hc := fun g (hg : v.ownBlock = some g) => h.cells hg
  rcases h.2 with ⟨rfl, h0⟩ | ⟨g, cap, cur, rfl, hb, hg, hn, hm, hs, ht⟩
  · exact ⟨none, 0, by rw [h0], by omega, ⟨rfl, by omega, fun h => by omega⟩, fun ad e => by cases e⟩
  · refine ⟨_, _, rfl, hn, ⟨rfl, by omega, fun _ => ⟨_, rfl, fun j p hj => ⟨[.string p], rfl, rfl, fun i u hi => ?_⟩⟩⟩, fun ad e => by cases e; rfl⟩
    have hi0 : i = 0 := by
      have := (List.getElem?_eq_some_iff.1 hi).1
      simp at this
      exact this
    subst hi0
    simp only [List.getElem?_cons_zero, Option.some.injEq] at hi
    subst hi
    have := hc g rfl j (.string p) (by simp [hj])
    show w.cell? ((⟨g, 0, none⟩ : Addr).add (j * 1 + 0)) = _
    rw [Nat.mul_one, Nat.add_zero]
    exact this

/-- A row in the print's word, as a row of texts. -/
theorem strs_of_R {w : World} {base e : Nat} {ok : Nat → Prop} {v : Value} {xs : List ByteArray} (h : Kd.R Kd.string e w base ok v xs) : w.ownsRow base e 1 v xs.length (xs.map Value.string) := by
  obtain ⟨_, inner, ho, hlen, hr⟩ := h
  have e1 : inner = xs.map Value.string := by
    apply List.ext_getElem?
    intro j
    have hl : inner.length = xs.length := by have : inner.length = xs.length * 1 := hlen; omega
    by_cases hj : j < xs.length
    · have hp := hr j xs[j] (List.getElem?_eq_getElem hj)
      have hp' : (inner.drop (j * 1)).take 1 = [.string xs[j]] := hp
      rw [Nat.mul_one] at hp'
      have h0 := congrArg (·[0]?) hp'
      simp only [List.getElem?_take, List.getElem?_drop, Nat.add_zero, Nat.zero_lt_one, if_true, List.getElem?_cons_zero] at h0
      rw [h0]
      simp [hj]
    · rw [List.getElem?_eq_none (by omega), List.getElem?_eq_none (by simp; omega)]
  rw [← e1]
  exact ho

end Go.Proofs.Ytdogmcpmlglkfaa
