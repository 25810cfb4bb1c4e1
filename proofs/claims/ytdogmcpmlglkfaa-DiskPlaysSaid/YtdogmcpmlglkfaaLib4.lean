/- The prover's own library, fourth part: rows, boxes, cells. No program in sight. -/
import Derived.Test.YtdogmcpmlglkfaaLib3
import Derived.Deep.QuietTactic
import Derived.BigQuiet
import Derived.Lib.Hide
import Derived.Maps.AppendAt
namespace Go.Proofs.Ytdogmcpmlglkfaa
open Go.RowKit Go.Proofs.YtdogmcpmlglkfaaW.PrintWords

open Go.RowKit Go.Proofs.YtdogmcpmlglkfaaW.PrintWords

theorem asz (w : World) (o : Obj) : (w.alloc o).heap.size = w.heap.size + 1 := by simp

theorem eqs (a b : ByteArray) : (a.toList == b.toList) = decide (a = b) := by
  rw [ByteArray.toList_eq, ByteArray.toList_eq, Bool.eq_iff_iff]
  simp only [beq_iff_eq, decide_eq_true_eq]
  exact ⟨fun h => WideShapes.bytes_inj h, fun h => by rw [h]⟩

theorem own_slice {w : World} {base : Nat} {e : TypeId} {size n : Nat} {v : Value} {xs : List Value} (h : w.ownsRow base e size v n xs) : ∃ A c, v = .slice A n c ∧ n ≤ c := by
  rcases h.2 with ⟨rfl, h0⟩ | ⟨g, cap, cur, rfl, _, _, h1, _⟩
  · exact ⟨none, 0, by rw [h0], by omega⟩
  · exact ⟨_, _, rfl, h1⟩

theorem ownsRow_weaken {w : World} {base base' : Nat} {e : TypeId} {size n : Nat} {v : Value} {xs : List Value} (h : w.ownsRow base e size v n xs) (hb : base' ≤ base) : w.ownsRow base' e size v n xs := by
  refine ⟨h.1, ?_⟩
  rcases h.2 with h0 | ⟨g, cap, cur, h1, h2, h3⟩
  · exact .inl h0
  · exact .inr ⟨g, cap, cur, h1, Nat.le_trans hb h2, h3⟩

theorem own_kind {w : World} {base : Nat} {e : TypeId} {size n : Nat} {v : Value} {xs : List Value} (h : w.ownsRow base e size v n xs) {g : Nat} (hg : v.ownBlock = some g) : ∃ cur, w.heap[g]? = some (.cells cur e (0, 0)) := by
  rcases h.2 with ⟨rfl, _⟩ | ⟨g', cap, cur, rfl, _, hh, _⟩
  · cases hg
  · cases hg; exact ⟨cur, hh⟩

theorem own_ne {w : World} {b1 b2 : Nat} {e1 e2 : TypeId} {s1 s2 n1 n2 : Nat} {v1 v2 : Value} {x1 x2 : List Value} (h1 : w.ownsRow b1 e1 s1 v1 n1 x1) (h2 : w.ownsRow b2 e2 s2 v2 n2 x2) (he : e1 ≠ e2) {g : Nat} (hg : v1.ownBlock = some g) : some g ≠ v2.ownBlock := fun e => by
  obtain ⟨c1, h1⟩ := own_kind h1 hg
  obtain ⟨c2, h2⟩ := own_kind h2 e.symm
  rw [h1] at h2
  cases h2
  exact he rfl

theorem own_ne_map {w : World} {b1 : Nat} {e1 : TypeId} {s1 n1 : Nat} {v1 : Value} {x1 : List Value} (h1 : w.ownsRow b1 e1 s1 v1 n1 x1) {r : Nat} {m : List (ByteArray × Value)} (hm : MapL w r m) : some r ≠ v1.ownBlock := fun e => by
  obtain ⟨c1, h1⟩ := own_kind h1 e.symm
  exact hm.not_cells h1

/-- A row of the call's own, past a new block and the turn of a map. -/
theorem own_past {w w2 : World} {b1 : Nat} {e1 : TypeId} {s1 n1 : Nat} {v1 : Value} {x1 : List Value} (h1 : w.ownsRow b1 e1 s1 v1 n1 x1) {r : Nat} {m : List (ByteArray × Value)} (hm : MapL w r m) {o : Obj} (hg : (w.alloc o).grownBy w2 (some r)) : w2.ownsRow b1 e1 s1 v1 n1 x1 := by
  refine ownsRow_move h1 fun k hk => ?_
  have hlt := (h1.lt k hk).2
  rw [hg.block k (by simp; omega) (fun e => own_ne_map h1 hm (by rw [hk, e])), Below.heap_alloc _ _ _ hlt]

theorem own_pos {w : World} {base : Nat} {e : TypeId} {size : Nat} {v : Value} {n : Nat} {xs : List Value} (h : w.ownsRow base e size v n xs) (hn : 0 < n) : ∃ g cap, v = .slice (some ⟨g, 0, none⟩) n cap := by
  rcases h.2 with ⟨_, h0⟩ | ⟨g, cap, _, h1, _⟩
  · omega
  · exact ⟨g, cap, h1⟩

theorem own_other {w2 w3 : World} {o2 : Obj} {row : Option Nat} (hg3 : (w2.alloc o2).grownBy w3 row) {b e s n : Nat} {v : Value} {xs : List Value} (hv : w2.ownsRow b e s v n xs) (hne : ∀ g, v.ownBlock = some g → some g ≠ row) : w3.ownsRow b e s v n xs := by
  refine ownsRow_move hv fun g hg => ?_
  have hlt := (hv.lt g hg).2
  rw [hg3.block g (by simp; omega) (hne g hg), Below.heap_alloc _ _ _ hlt]

theorem setCell_row {w : World} {p j : Nat} {c : Array Value} {t : TypeId} {f : Nat × Nat} (u : Value) (h : w.heap[p]? = some (.cells c t f)) : (w.setCell ⟨p, j, none⟩ u).heap[p]? = some (.cells (c.setIfInBounds j u) t f) := by
  simp [World.setCell, Array.getElem?_modify, h]

/-- The cells of a new block are what was laid. -/
theorem cells_new (w : World) (c : List Value) (t : TypeId) (j : Nat) (u : Value) (h : c[j]? = some u) : (w.alloc (.cells c.toArray t)).cell? ((⟨w.heap.size, 0, none⟩ : Addr).add j) = some u := by
  have ha : (⟨w.heap.size, 0, none⟩ : Addr).add j = ⟨w.heap.size, j, none⟩ := by unfold Addr.add; split <;> simp_all
  rw [ha]
  unfold World.cell?
  rw [heap_alloc_new]
  simpa using h

theorem at_str {w : World} {A : Option Addr} {n : Nat} {xs : List ByteArray} (h : Kd.C Kd.string w A n xs) {i : Nat} (hi : i < xs.length) : ∃ ad, A = some ad ∧ w.cell? (ad.add i) = some (.string xs[i]) := by
  obtain ⟨hl, hn, hr⟩ := h
  obtain ⟨ad, e, hc⟩ := hr (by omega)
  obtain ⟨c, hs, hk, hcell⟩ := hc i _ (List.getElem?_eq_getElem hi)
  have : c = [.string xs[i]] := hk
  subst this
  refine ⟨ad, e, ?_⟩
  have := hcell 0 _ rfl
  have e1 : i * Kd.string.sz + 0 = i := by show i * 1 + 0 = i; omega
  rwa [e1] at this

/-- A row of strings, laid as a block, is read. -/
theorem strs_read {w : World} {g : Nat} {t : TypeId} {c : List Value} {xs : List ByteArray} (h : w.heap[g]? = some (.cells c.toArray t)) (hc : c = xs.map Value.string) (hl : xs.length ≤ 1000000) : Kd.C Kd.string w (some ⟨g, 0, none⟩) xs.length xs := by
  refine ⟨rfl, by omega, fun _ => ⟨_, rfl, fun j p hj => ⟨[.string p], rfl, rfl, fun i u hi => ?_⟩⟩⟩
  have hi0 : i = 0 := by
    have := (List.getElem?_eq_some_iff.1 hi).1
    simp at this
    exact this
  subst hi0
  simp only [List.getElem?_cons_zero, Option.some.injEq] at hi
  subst hi
  have ha : (⟨g, 0, none⟩ : Addr).add (j * 1 + 0) = ⟨g, j, none⟩ := by unfold Addr.add; split <;> simp_all
  show w.cell? ((⟨g, 0, none⟩ : Addr).add (j * 1 + 0)) = _
  rw [ha]
  simp [World.cell?, h, hc, hj]

open Go.RowKit Go.Proofs.YtdogmcpmlglkfaaW.PrintWords

/-- An append to a row of the call's own, as one step of a region that draws. -/
theorem step_append_own {P : Program} {ops : Array Oper} {o : Oper} {a : Act} {w : World} {K : Act → World → Prop} {Q : Exit → Act → World → Prop} {E : Prop}
    (hg : o.guard = none) (s x : Operand) (t : TypeId) (ho : o.op = .call { callee := .builtin .append, args := #[s, x], argTypes := #[t, t] })
    (base : Nat) (e : TypeId) (i : TypeInfo) (z : Value) (size bytes : Nat) (ht : P.underlying t = some (.slice e)) (hi : P.info? e = some i) (hz : i.zero = some z)
    (hsize : i.size = size) (hby : i.bytes = bytes) (hzs : z.cells.size = size) (hsz : 0 < size)
    (v : Value) (n : Nat) (xs : List Value) (hs : a.eval s = v) (hown : w.ownsRow base e size v n xs)
    (ad : Addr) (m c : Nat) (news : List Value) (hx : a.eval x = .slice (some ad) m c) (hl : news.length = m * size) (hnews : ∀ j u, news[j]? = some u → w.cell? (ad.add j) = some u) (h1 : ∀ u ∈ news, u.oneCell' = true)
    (h63 : n + m ≤ maxLen) (hbytes : (n + m) * bytes ≤ 140737488355328) (hbase : base ≤ w.heap.size)
    (h : ∀ v' w', w'.ownsRow base e size v' (n + m) (xs ++ news) → w.grownBy w' v.ownBlock → (v' = .slice none 0 0 ↔ v = .slice none 0 0 ∧ m = 0) → (v'.ownBlock = v.ownBlock ∨ v'.ownBlock = some w.heap.size) → K (a.put o.dst v') w') :
    if Region.wanted o (yielded ops a.tmps) = true then Oper.wp P o a w K Q else E := by
  rw [if_pos (by simp [Region.wanted, hg])]
  obtain ⟨v', w', hr, h2, h3, h4, h5⟩ := run_append_own_at (P := P) w base t o.type e i z size bytes ht hi hz hsize hby hzs hsz v n xs hown ad m c news hl hnews h1 h63 hbytes hbase
  unfold Oper.wp execOp
  simp only [ho, resolve, invoke, builtin, Sem.run_bind, Sem.run_pure, Result.andThen_ok, List.map_toArray, List.map_cons, List.map_nil, hs, hx, hr]
  exact h v' w' h2 h3 h4 h5

open Go.RowKit Go.Proofs.YtdogmcpmlglkfaaW.PrintWords

theorem step_append_set {P : Program} {ops : Array Oper} {o : Oper} {a : Act} {w : World} {K : Act → World → Prop} {Q : Exit → Act → World → Prop} {E : Prop}
    (hg : o.guard = none) (s x : Operand) (t : TypeId) (ho : o.op = .call { callee := .builtin .append, args := #[s, x], argTypes := #[t, t] })
    (e : TypeId) (i : TypeInfo) (size : Nat) (ht : P.underlying t = some (.slice e)) (hi : P.info? e = some i) (hsize : i.size = size)
    (g n cap : Nat) (cur : Array Value) (hgc : w.heap[g]? = some (.cells cur e (0, 0))) (hs : a.eval s = .slice (some ⟨g, 0, none⟩) n cap)
    (ad : Addr) (m c : Nat) (news : List Value) (hx : a.eval x = .slice (some ad) m c) (hl : news.length = m * size) (hnews : ∀ j u, news[j]? = some u → w.cell? (ad.add j) = some u) (h1 : ∀ u ∈ news, u.oneCell' = true)
    (hroom : n + m ≤ cap) (hfit : n * size + news.length ≤ cur.size)
    (h : K (a.put o.dst (.slice (some ⟨g, 0, none⟩) (n + m) cap)) (w.setRow g (cur.toList.take (n * size) ++ news ++ cur.toList.drop (n * size + news.length)).toArray)) :
    if Region.wanted o (yielded ops a.tmps) = true then Oper.wp P o a w K Q else E := by
  rw [if_pos (by simp [Region.wanted, hg])]
  subst hsize
  have hr := run_append_room (P := P) w t o.type e i ht hi g n cap cur hgc ad m c news hl hnews h1 hroom hfit
  unfold Oper.wp execOp
  simp only [ho, resolve, invoke, builtin, Sem.run_bind, Sem.run_pure, Result.andThen_ok, List.map_toArray, List.map_cons, List.map_nil, hs, hx, hr]
  exact h

theorem own_below {w w' : World} {base : Nat} {e : TypeId} {size n : Nat} {v : Value} {xs : List Value} (h : w.ownsRow base e size v n xs) (hb : Below w.heap.size w w') : w'.ownsRow base e size v n xs :=
  ownsRow_move h fun b hk => hb.block b (h.lt b hk).2

theorem addk' (g o j : Nat) : (⟨g, o, none⟩ : Addr).add j = ⟨g, o + j, none⟩ := by unfold Addr.add; split <;> simp_all

theorem add0 (g j : Nat) : (⟨g, 0, none⟩ : Addr).add j = ⟨g, j, none⟩ := by unfold Addr.add; split <;> simp_all

open Go.RowKit Go.Proofs.YtdogmcpmlglkfaaW.PrintWords

theorem RangeL.left_eq {w : World} {r b : Nat} {m left : List (ByteArray × Value)} (h : RangeL w r b m left) : w.rangeLeft b r = left.length := by
  obtain ⟨es, clock, since, seen, c0, hb, hs, he, hr, hx, hc, hk, hl⟩ := h
  have := congrArg List.length hl
  simp only [List.length_map, Array.length_toList] at this
  unfold World.rangeLeft
  rw [hb, hr]
  exact this

theorem box3 {w : World} {b : Nat} {x y z : Value} {t : TypeId} (h : w.heap[b]? = some (.cells #[x, y, z] t)) : w.cell? ⟨b, 0, none⟩ = some x ∧ w.cell? ⟨b, 1, none⟩ = some y ∧ w.cell? ⟨b, 2, none⟩ = some z := by
  refine ⟨by simp [World.cell?, h], by simp [World.cell?, h], by simp [World.cell?, h]⟩

theorem box4 {w : World} {b : Nat} {x y z u : Value} {t : TypeId} (h : w.heap[b]? = some (.cells #[x, y, z, u] t)) : w.cell? ⟨b, 0, none⟩ = some x ∧ w.cell? ⟨b, 1, none⟩ = some y ∧ w.cell? ⟨b, 2, none⟩ = some z ∧ w.cell? ⟨b, 3, none⟩ = some u := by
  refine ⟨by simp [World.cell?, h], by simp [World.cell?, h], by simp [World.cell?, h], by simp [World.cell?, h]⟩

theorem box_after {wr w2 : World} {cs : Array Value} {t : TypeId} {r : Nat} (hg : (wr.alloc (.cells cs t)).grownBy w2 (some r)) (hr : r < wr.heap.size) : w2.heap[wr.heap.size]? = some (.cells cs t) := by
  rw [hg.block wr.heap.size (by simp) (by simp; omega)]
  exact heap_alloc_new wr _

theorem blk_keep {w wr w1 : World} {o : Obj} {row : Option Nat} {p : Nat} (hw : Below w.heap.size w wr) (hp : p < w.heap.size) (hg : (wr.drew.alloc o).grownBy w1 row) (hr : some p ≠ row) : w1.heap[p]? = w.heap[p]? := by
  have hp2 : p < wr.heap.size := Nat.lt_of_lt_of_le hp hw.size
  rw [hg.block p (by simp; omega) hr, Below.heap_alloc _ _ _ (by simpa using hp2)]
  exact hw.block p hp

/-- A cell kept, behind a call that writes nothing elder. -/
theorem keepB {wc x y : World} {g j : Nat} {u : Value} (h1 : x.cell? ⟨g, j, none⟩ = some u) (h2 : Below wc.heap.size wc x) (hb : Below x.heap.size x y) : y.cell? ⟨g, j, none⟩ = some u ∧ Below wc.heap.size wc y :=
  ⟨(hb.cell (World.block_lt_of_cell? _ _ h1)).trans h1, h2.trans (hb.mono h2.size)⟩

theorem keep3 {x y : World} {g : Nat} {u1 u2 u3 : Value} (h1 : x.cell? ⟨g, 1, none⟩ = some u1) (h2 : x.cell? ⟨g, 2, none⟩ = some u2) (h3 : x.cell? ⟨g, 3, none⟩ = some u3) (hb : Below x.heap.size x y) :
    y.cell? ⟨g, 1, none⟩ = some u1 ∧ y.cell? ⟨g, 2, none⟩ = some u2 ∧ y.cell? ⟨g, 3, none⟩ = some u3 :=
  ⟨(hb.cell (World.block_lt_of_cell? _ _ h1)).trans h1, (hb.cell (World.block_lt_of_cell? _ _ h2)).trans h2, (hb.cell (World.block_lt_of_cell? _ _ h3)).trans h3⟩

theorem keepG {x y : World} {g : Nat} {u1 u2 u3 : Value} {o : Obj} {row : Option Nat} (h1 : x.cell? ⟨g, 1, none⟩ = some u1) (h2 : x.cell? ⟨g, 2, none⟩ = some u2) (h3 : x.cell? ⟨g, 3, none⟩ = some u3) (hg : (x.alloc o).grownBy y row) (hne : some g ≠ row) :
    y.cell? ⟨g, 1, none⟩ = some u1 ∧ y.cell? ⟨g, 2, none⟩ = some u2 ∧ y.cell? ⟨g, 3, none⟩ = some u3 := by
  have hl : g < x.heap.size := World.block_lt_of_cell? _ _ h1
  have e : y.heap[g]? = x.heap[g]? := by rw [hg.block g (by rw [asz]; omega) hne, Below.heap_alloc _ _ _ hl]
  exact ⟨(World.cell?_of_block e).trans h1, (World.cell?_of_block e).trans h2, (World.cell?_of_block e).trans h3⟩

theorem own_empty (w : World) (e : TypeId) (size : Nat) : (w.alloc (.cells #[] e)).drew.ownsRow w.heap.size e size (.slice (some ⟨w.heap.size, 0, none⟩) 0 0) 0 [] :=
  ownsRow_move (World.ownsRow_made w #[] 0 (Nat.le_refl _) (Nat.zero_le _) (by simp)) fun _ _ => rfl

theorem nodup_idx {α : Type} {l : List α} (h : l.Nodup) {i j : Nat} {x : α} (hi : l[i]? = some x) (hj : l[j]? = some x) : i = j := by
  obtain ⟨hi, ei⟩ := List.getElem?_eq_some_iff.1 hi
  obtain ⟨hj, ej⟩ := List.getElem?_eq_some_iff.1 hj
  rcases Nat.lt_trichotomy i j with h1 | h1 | h1
  · exact absurd (ei.trans ej.symm) (List.pairwise_iff_getElem.1 h i j hi hj h1)
  · exact h1
  · exact absurd (ej.trans ei.symm) (List.pairwise_iff_getElem.1 h j i hj hi h1)

end Go.Proofs.Ytdogmcpmlglkfaa
