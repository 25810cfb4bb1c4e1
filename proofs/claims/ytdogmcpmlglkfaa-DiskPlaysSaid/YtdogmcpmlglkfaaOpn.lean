/- The prover's own library, fourth part: what an argument's reading tells of memory, in the print's word Kd. No program in sight. -/
import Derived.Test.YtdogmcpmlglkfaaWWords
import Derived.ProofKit
import Derived.Deep.Slices
namespace Go.Proofs.Ytdogmcpmlglkfaa
open Go.RowKit Go.Proofs.YtdogmcpmlglkfaaW.PrintWords

section
variable {H : Type} {enc : TypeId × Value → H} {P : Program} {w : World} {spare : Nat → Bool} {held : Bool}

/-- Cells that read at type t stand as the kind d says; of what they hold G is so. -/
def Opens {H : Type} (enc : TypeId × Value → H) (P : Program) (w : World) (spare : Nat → Bool) (held : Bool) {α : Type} (t : TypeId) (d : Kd α) (G : α → Prop) : Prop :=
  ∀ fuel cs x, DataW.trod enc P w 0 spare held fuel t cs = some x → ∃ a, d.K w a cs ∧ G a

theorem Opens.str {t : TypeId} (ht : P.underlying t = some .string) : Opens enc P w spare held t Kd.string (fun s => s.size ≤ maxLen) := by
  intro fuel cs x h
  obtain ⟨s, rfl, _, hs⟩ := DataW.trod_string ht h
  exact ⟨s, rfl, hs⟩

theorem Opens.int {t : TypeId} {k : IntKind} (ht : P.underlying t = some (.int k)) : Opens enc P w spare held t (Kd.int k) (fun n => (Lit.int k n).wf = true) := by
  intro fuel cs x h
  obtain ⟨n, rfl, _, hs⟩ := DataW.trod_int ht h
  exact ⟨n, rfl, hs⟩

theorem cells?_at {base : Nat} {a : Addr} {n : Nat} {cs : List Value} (h : w.cells? base a n = some cs) : cs.length = n ∧ ∀ i u, cs[i]? = some u → w.cell? (a.add i) = some u := by
  unfold World.cells? at h
  split at h
  · have hl : cs.length = n := by simpa using mapM_some_length h
    refine ⟨hl, fun i u hi => ?_⟩
    have hin : i < n := by have := (List.getElem?_eq_some_iff.1 hi).1; omega
    have := mapM_some_get h i i (by simp [hin])
    rw [this]
    exact hi
  · cases h

theorem Opens.slice {α : Type} {t e : TypeId} {d : Kd α} {G : α → Prop} (ht : P.underlying t = some (.slice e)) (hs : P.cellsOf e = d.sz) (h : Opens enc P w spare held e d G) :
    Opens enc P w spare held t (Kd.slice e d) (fun xs => xs.length ≤ maxLen ∧ ∀ x ∈ xs, G x) := by
  intro fuel cs x hx
  rcases Deep.open_slice ht hx with ⟨rfl, _⟩ | ⟨a, len, cap, m, n, D, Pl, rfl, _, hl, hm, hmm, _, hel⟩
  · exact ⟨[], ⟨none, 0, rfl, Nat.le_refl _, rfl, Nat.zero_le _, fun h => by simp at h⟩, Nat.zero_le _, fun x hx => by simp at hx⟩
  · have hlm : len ≤ m := by rw [hmm]; split <;> omega
    have each : ∀ i, i < len → ∃ y : α × List Value, d.K w y.1 y.2 ∧ G y.1 ∧ y.2.length = d.sz ∧ ∀ j u, y.2[j]? = some u → w.cell? (a.add (i * d.sz + j)) = some u := by
      intro i hi
      obtain ⟨cs', h1, h2⟩ := hel i (by omega)
      obtain ⟨y, hy, hg⟩ := h _ _ _ h2
      obtain ⟨hl', hc⟩ := cells?_at h1
      rw [hs] at hc hl'
      refine ⟨(y, cs'), hy, hg, hl', fun j u hj => ?_⟩
      rw [← Deep.add_add]
      exact hc j u hj
    have hne : len = 0 ∨ Nonempty (α × List Value) := by
      rcases Nat.eq_zero_or_pos len with h0 | h0
      · exact .inl h0
      · obtain ⟨y, _⟩ := each 0 h0
        exact .inr ⟨y⟩
    rcases hne with h0 | ⟨⟨y0⟩⟩
    · subst h0
      exact ⟨[], ⟨some a, cap, rfl, Nat.zero_le _, rfl, Nat.zero_le _, fun h => by simp at h⟩, Nat.zero_le _, fun x hx => by simp at hx⟩
    · have : Inhabited (α × List Value) := ⟨y0⟩
      obtain ⟨f, hf⟩ := Deep.choose_lt each
      have hlen : ((List.range len).map fun i => (f i).1).length = len := by simp
      have hml : len ≤ maxLen := by omega
      refine ⟨(List.range len).map fun i => (f i).1, ⟨some a, cap, by rw [hlen], by rw [hlen]; exact hl, ?_⟩, by rw [hlen]; exact hml, ?_⟩
      · refine ⟨rfl, by rw [hlen]; unfold maxLen at hml; omega, fun _ => ⟨a, rfl, fun j p hj => ?_⟩⟩
        have hj' : j < len := by have := (List.getElem?_eq_some_iff.1 hj).1; rwa [hlen] at this
        simp only [List.getElem?_map, List.getElem?_range hj', Option.map_some, Option.some.injEq] at hj
        subst hj
        obtain ⟨h1, h2, h3, h4⟩ := hf j hj'
        exact ⟨(f j).2, h3, h1, h4⟩
      · intro x hx
        simp only [List.mem_map, List.mem_range] at hx
        obtain ⟨i, hi, rfl⟩ := hx
        exact (hf i hi).2.1

theorem Opens.struct2 {α β : Type} {t : TypeId} {f0 f1 : Field} {d0 : Kd α} {d1 : Kd β} {G0 : α → Prop} {G1 : β → Prop} (ht : P.underlying t = some (.struct #[f0, f1]))
    (hs : f0.offset = 0 ∧ P.cellsOf f0.type = d0.sz ∧ f1.offset = d0.sz ∧ P.cellsOf f1.type = d1.sz ∧ P.cellsOf t = d0.sz + d1.sz)
    (h0 : Opens enc P w spare held f0.type d0 G0) (h1 : Opens enc P w spare held f1.type d1 G1) :
    Opens enc P w spare held t (Kd.pair d0 d1) (fun x => G0 x.1 ∧ G1 x.2) := by
  intro fuel cs x hx
  obtain ⟨xs, n, _, rfl, hl, hlen, hf⟩ := DataW.trod_struct ht hx
  obtain ⟨o0, s0, o1, s1, st⟩ := hs
  match xs, hlen with
  | [y0, y1], _ =>
    have e0 := hf 0 f0 rfl
    have e1 := hf 1 f1 rfl
    simp only [o0, s0, o1, s1, List.drop_zero, List.getElem?_cons_zero, List.getElem?_cons_succ] at e0 e1
    obtain ⟨a0, k0, g0⟩ := h0 _ _ _ e0
    obtain ⟨a1, k1, g1⟩ := h1 _ _ _ e1
    have hlast : (cs.drop d0.sz).take d1.sz = cs.drop d0.sz := List.take_of_length_le (by rw [List.length_drop]; omega)
    rw [hlast] at k1
    exact ⟨(a0, a1), ⟨_, _, (List.take_append_drop d0.sz cs).symm, k0, k1⟩, g0, g1⟩

theorem Opens.struct3 {α β γ : Type} {t : TypeId} {f0 f1 f2 : Field} {d0 : Kd α} {d1 : Kd β} {d2 : Kd γ} {G0 : α → Prop} {G1 : β → Prop} {G2 : γ → Prop} (ht : P.underlying t = some (.struct #[f0, f1, f2]))
    (hs : f0.offset = 0 ∧ P.cellsOf f0.type = d0.sz ∧ f1.offset = d0.sz ∧ P.cellsOf f1.type = d1.sz ∧ f2.offset = d0.sz + d1.sz ∧ P.cellsOf f2.type = d2.sz ∧ P.cellsOf t = d0.sz + (d1.sz + d2.sz))
    (h0 : Opens enc P w spare held f0.type d0 G0) (h1 : Opens enc P w spare held f1.type d1 G1) (h2 : Opens enc P w spare held f2.type d2 G2) :
    Opens enc P w spare held t (Kd.pair d0 (Kd.pair d1 d2)) (fun x => G0 x.1 ∧ G1 x.2.1 ∧ G2 x.2.2) := by
  intro fuel cs x hx
  obtain ⟨xs, n, _, rfl, hl, hlen, hf⟩ := DataW.trod_struct ht hx
  obtain ⟨o0, s0, o1, s1, o2, s2, st⟩ := hs
  match xs, hlen with
  | [y0, y1, y2], _ =>
    have e0 := hf 0 f0 rfl
    have e1 := hf 1 f1 rfl
    have e2 := hf 2 f2 rfl
    simp only [o0, s0, o1, s1, o2, s2, List.drop_zero, List.getElem?_cons_zero, List.getElem?_cons_succ] at e0 e1 e2
    obtain ⟨a0, k0, g0⟩ := h0 _ _ _ e0
    obtain ⟨a1, k1, g1⟩ := h1 _ _ _ e1
    obtain ⟨a2, k2, g2⟩ := h2 _ _ _ e2
    have hlast : (cs.drop (d0.sz + d1.sz)).take d2.sz = cs.drop (d0.sz + d1.sz) := List.take_of_length_le (by rw [List.length_drop]; omega)
    rw [hlast] at k2
    refine ⟨(a0, a1, a2), ⟨_, _, (List.take_append_drop d0.sz cs).symm, k0, ⟨_, _, (List.take_append_drop d1.sz (cs.drop d0.sz)).symm, k1, ?_⟩⟩, g0, g1, g2⟩
    rw [List.drop_drop]
    exact k2

theorem Opens.struct4 {α β γ δ : Type} {t : TypeId} {f0 f1 f2 f3 : Field} {d0 : Kd α} {d1 : Kd β} {d2 : Kd γ} {d3 : Kd δ} {G0 : α → Prop} {G1 : β → Prop} {G2 : γ → Prop} {G3 : δ → Prop} (ht : P.underlying t = some (.struct #[f0, f1, f2, f3]))
    (hs : f0.offset = 0 ∧ P.cellsOf f0.type = d0.sz ∧ f1.offset = d0.sz ∧ P.cellsOf f1.type = d1.sz ∧ f2.offset = d0.sz + d1.sz ∧ P.cellsOf f2.type = d2.sz ∧ f3.offset = d0.sz + d1.sz + d2.sz ∧ P.cellsOf f3.type = d3.sz ∧ P.cellsOf t = d0.sz + (d1.sz + (d2.sz + d3.sz)))
    (h0 : Opens enc P w spare held f0.type d0 G0) (h1 : Opens enc P w spare held f1.type d1 G1) (h2 : Opens enc P w spare held f2.type d2 G2) (h3 : Opens enc P w spare held f3.type d3 G3) :
    Opens enc P w spare held t (Kd.pair d0 (Kd.pair d1 (Kd.pair d2 d3))) (fun x => G0 x.1 ∧ G1 x.2.1 ∧ G2 x.2.2.1 ∧ G3 x.2.2.2) := by
  intro fuel cs x hx
  obtain ⟨xs, n, _, rfl, hl, hlen, hf⟩ := DataW.trod_struct ht hx
  obtain ⟨o0, s0, o1, s1, o2, s2, o3, s3, st⟩ := hs
  match xs, hlen with
  | [y0, y1, y2, y3], _ =>
    have e0 := hf 0 f0 rfl
    have e1 := hf 1 f1 rfl
    have e2 := hf 2 f2 rfl
    have e3 := hf 3 f3 rfl
    simp only [o0, s0, o1, s1, o2, s2, o3, s3, List.drop_zero, List.getElem?_cons_zero, List.getElem?_cons_succ] at e0 e1 e2 e3
    obtain ⟨a0, k0, g0⟩ := h0 _ _ _ e0
    obtain ⟨a1, k1, g1⟩ := h1 _ _ _ e1
    obtain ⟨a2, k2, g2⟩ := h2 _ _ _ e2
    obtain ⟨a3, k3, g3⟩ := h3 _ _ _ e3
    have hlast : (cs.drop (d0.sz + d1.sz + d2.sz)).take d3.sz = cs.drop (d0.sz + d1.sz + d2.sz) := List.take_of_length_le (by rw [List.length_drop]; omega)
    rw [hlast] at k3
    refine ⟨(a0, a1, a2, a3), ⟨_, _, (List.take_append_drop d0.sz cs).symm, k0, ⟨_, _, (List.take_append_drop d1.sz (cs.drop d0.sz)).symm, k1, ⟨_, _, (List.take_append_drop d2.sz ((cs.drop d0.sz).drop d1.sz)).symm, ?_, ?_⟩⟩⟩, g0, g1, g2, g3⟩
    · rw [List.drop_drop]; exact k2
    · rw [List.drop_drop, List.drop_drop, ← Nat.add_assoc]; exact k3

theorem Opens.struct5 {α β γ δ ε : Type} {t : TypeId} {f0 f1 f2 f3 f4 : Field} {d0 : Kd α} {d1 : Kd β} {d2 : Kd γ} {d3 : Kd δ} {d4 : Kd ε} {G0 : α → Prop} {G1 : β → Prop} {G2 : γ → Prop} {G3 : δ → Prop} {G4 : ε → Prop} (ht : P.underlying t = some (.struct #[f0, f1, f2, f3, f4]))
    (hs : f0.offset = 0 ∧ P.cellsOf f0.type = d0.sz ∧ f1.offset = d0.sz ∧ P.cellsOf f1.type = d1.sz ∧ f2.offset = d0.sz + d1.sz ∧ P.cellsOf f2.type = d2.sz ∧ f3.offset = d0.sz + d1.sz + d2.sz ∧ P.cellsOf f3.type = d3.sz ∧ f4.offset = d0.sz + d1.sz + d2.sz + d3.sz ∧ P.cellsOf f4.type = d4.sz ∧ P.cellsOf t = d0.sz + (d1.sz + (d2.sz + (d3.sz + d4.sz))))
    (h0 : Opens enc P w spare held f0.type d0 G0) (h1 : Opens enc P w spare held f1.type d1 G1) (h2 : Opens enc P w spare held f2.type d2 G2) (h3 : Opens enc P w spare held f3.type d3 G3) (h4 : Opens enc P w spare held f4.type d4 G4) :
    Opens enc P w spare held t (Kd.pair d0 (Kd.pair d1 (Kd.pair d2 (Kd.pair d3 d4)))) (fun x => G0 x.1 ∧ G1 x.2.1 ∧ G2 x.2.2.1 ∧ G3 x.2.2.2.1 ∧ G4 x.2.2.2.2) := by
  intro fuel cs x hx
  obtain ⟨xs, n, _, rfl, hl, hlen, hf⟩ := DataW.trod_struct ht hx
  obtain ⟨o0, s0, o1, s1, o2, s2, o3, s3, o4, s4, st⟩ := hs
  match xs, hlen with
  | [y0, y1, y2, y3, y4], _ =>
    have e0 := hf 0 f0 rfl
    have e1 := hf 1 f1 rfl
    have e2 := hf 2 f2 rfl
    have e3 := hf 3 f3 rfl
    have e4 := hf 4 f4 rfl
    simp only [o0, s0, o1, s1, o2, s2, o3, s3, o4, s4, List.drop_zero, List.getElem?_cons_zero, List.getElem?_cons_succ] at e0 e1 e2 e3 e4
    obtain ⟨a0, k0, g0⟩ := h0 _ _ _ e0
    obtain ⟨a1, k1, g1⟩ := h1 _ _ _ e1
    obtain ⟨a2, k2, g2⟩ := h2 _ _ _ e2
    obtain ⟨a3, k3, g3⟩ := h3 _ _ _ e3
    obtain ⟨a4, k4, g4⟩ := h4 _ _ _ e4
    have hlast : (cs.drop (d0.sz + d1.sz + d2.sz + d3.sz)).take d4.sz = cs.drop (d0.sz + d1.sz + d2.sz + d3.sz) := List.take_of_length_le (by rw [List.length_drop]; omega)
    rw [hlast] at k4
    refine ⟨(a0, a1, a2, a3, a4), ⟨_, _, (List.take_append_drop d0.sz cs).symm, k0, ⟨_, _, (List.take_append_drop d1.sz (cs.drop d0.sz)).symm, k1, ⟨_, _, (List.take_append_drop d2.sz ((cs.drop d0.sz).drop d1.sz)).symm, ?_, ⟨_, _, (List.take_append_drop d3.sz (((cs.drop d0.sz).drop d1.sz).drop d2.sz)).symm, ?_, ?_⟩⟩⟩⟩, g0, g1, g2, g3, g4⟩
    · rw [List.drop_drop]; exact k2
    · rw [List.drop_drop, List.drop_drop, ← Nat.add_assoc]; exact k3
    · rw [List.drop_drop, List.drop_drop, List.drop_drop, ← Nat.add_assoc, ← Nat.add_assoc]; exact k4

theorem Opens.iso {α β : Type} {t : TypeId} {d : Kd α} {G : α → Prop} (f : β → α) (g : α → β) (hfg : ∀ x, f (g x) = x) (h : Opens enc P w spare held t d G) : Opens enc P w spare held t (Kd.iso d f) (fun y => G (f y)) := by
  intro fuel cs x hx
  obtain ⟨a, k, hg⟩ := h _ _ _ hx
  refine ⟨g a, ?_, by show G (f (g a)); rw [hfg]; exact hg⟩
  show d.K w (f (g a)) cs
  rw [hfg]
  exact k

end

end Go.Proofs.Ytdogmcpmlglkfaa
