/- Walks of package wait: Len, find, Has, Put. -/
import Derived.Test.YtaecjkffemmpcaaW1
import Derived.Test.YtaecjkffemmpcaaPRefx
import Derived.Deep.RegionLaw
import Derived.Maps.AppendAt
namespace Go.Proofs.Ytaecjkffemmpcaa
open Go.RowKit Go.Proofs.YtaecjkffemmpcaaW.PrintWords

/-- An append to a row of the call's own, as one step of a region that draws. -/
theorem step_append_own {P : Program} {ops : Array Oper} {o : Oper} {a : Act} {w : World} {K : Act → World → Prop} {Q : Exit → Act → World → Prop} {E : Prop}
    (hg : o.guard = none) (s x : Operand) (t : TypeId) (ho : o.op = .call { callee := .builtin .append, args := #[s, x], argTypes := #[t, t] })
    (base : Nat) (e : TypeId) (i : TypeInfo) (z : Value) (size bytes : Nat) (ht : P.underlying t = some (.slice e)) (hi : P.info? e = some i) (hz : i.zero = some z)
    (hsize : i.size = size) (hby : i.bytes = bytes) (hzs : z.cells.size = size) (hsz : 0 < size)
    (v : Value) (n : Nat) (xs : List Value) (hs : a.eval s = v) (hown : w.ownsRow base e size v n xs)
    (ad : Addr) (m c : Nat) (news : List Value) (hx : a.eval x = .slice (some ad) m c) (hl : news.length = m * size) (hnews : ∀ j u, news[j]? = some u → w.cell? (ad.add j) = some u) (h1 : ∀ u ∈ news, u.oneCell' = true)
    (h63 : n + m ≤ maxLen) (hbytes : (n + m) * bytes ≤ 140737488355328) (hbase : base ≤ w.heap.size)
    (h : ∀ v' w', w'.ownsRow base e size v' (n + m) (xs ++ news) → w.grownBy w' v.ownBlock → (v' = .slice none 0 0 ↔ v = .slice none 0 0 ∧ m = 0) → (v'.ownBlock = v.ownBlock ∨ v'.ownBlock = some w.heap.size) → K (a.put o.dst v') w') :
    if Region.wanted o (yielded ops a.tmps) = true then Oper.wp P o a w K Q else E := by
  rw [if_pos (by simp [Region.wanted, hg])]
  obtain ⟨v', w', hr, h2, h3, h4, h5⟩ := run_append_own_at (P := P) w base t o.type e i z size bytes ht hi hz hsize hby hzs hsz v n xs hown ad m c news hl hnews h1 h63 hbytes hbase
  unfold Oper.wp execOp
  simp only [ho, resolve, invoke, builtin, Sem.run_bind, Sem.run_pure, Result.andThen_ok, List.map_toArray, List.map_cons, List.map_nil, hs, hx, hr]
  exact h v' w' h2 h3 h4 h5

theorem setCell_row {w : World} {p j : Nat} {c : Array Value} {t : TypeId} {f : Nat × Nat} (u : Value) (h : w.heap[p]? = some (.cells c t f)) : (w.setCell ⟨p, j, none⟩ u).heap[p]? = some (.cells (c.setIfInBounds j u) t f) := by
  simp [World.setCell, Array.getElem?_modify, h]

theorem own_pos {w : World} {base : Nat} {e : TypeId} {size : Nat} {v : Value} {n : Nat} {xs : List Value} (h : w.ownsRow base e size v n xs) (hn : 0 < n) : ∃ g cap, v = .slice (some ⟨g, 0, none⟩) n cap := by
  rcases h.2 with ⟨_, h0⟩ | ⟨g, cap, _, h1, _⟩
  · omega
  · exact ⟨g, cap, h1⟩

/-- The cells of a new block are what was laid. -/
theorem cells_new (w : World) (c : List Value) (t : TypeId) (j : Nat) (u : Value) (h : c[j]? = some u) : (w.alloc (.cells c.toArray t)).cell? ((⟨w.heap.size, 0, none⟩ : Addr).add j) = some u := by
  have ha : (⟨w.heap.size, 0, none⟩ : Addr).add j = ⟨w.heap.size, j, none⟩ := by unfold Addr.add; split <;> simp_all
  rw [ha]
  unfold World.cell?
  rw [heap_alloc_new]
  simpa using h

theorem at_str {w : World} {A : Option Addr} {n : Nat} {xs : List ByteArray} (h : Kd.C Kd.string w A n xs) {i : Nat} (hi : i < xs.length) : ∃ ad, A = some ad ∧ w.cell? (ad.add i) = some (.string xs[i]) := by
  obtain ⟨hl, hn, hr⟩ := h
  obtain ⟨ad, e, hc⟩ := hr (by omega)
  obtain ⟨c, hs, hk, hcell⟩ := hc i _ (List.getElem?_eq_getElem hi)
  have : c = [.string xs[i]] := hk
  subst this
  refine ⟨ad, e, ?_⟩
  have := hcell 0 _ rfl
  have e1 : i * Kd.string.sz + 0 = i := by show i * 1 + 0 = i; omega
  rwa [e1] at this

theorem WRep.lt {w : World} {F : Nat → Prop} {p : Nat} {places : Int} {l : List WItem} (h : WRep w F p places l) : p < w.heap.size := by
  obtain ⟨v, rs, h1, _⟩ := h
  exact (Array.getElem?_eq_some_iff.1 h1).1

theorem WRep.cell0 {w : World} {p : Nat} {a v : Value} {t : TypeId} (h : w.heap[p]? = some (.cells #[a, v] t)) : w.cell? ⟨p, 0, none⟩ = some a ∧ w.cell? ⟨p, 1, none⟩ = some v ∧ (∀ o, w.frozen? ⟨p, o, none⟩ = false) := by
  refine ⟨by simp [World.cell?, h], by simp [World.cell?, h], fun o => by simp [World.frozen?, h]⟩

theorem len_nil (w : World) :
    Calls Try.prog 10 #[.pointer none] w fun e w' => e = .returned (.int .i64 0) ∧ w = w' := by
  go_enter Try.func10, Try.ntmps10
  go_wp2
  go_ret
  exact ⟨rfl, rfl⟩

theorem len_at (p : Nat) (A : Option Addr) (n c : Nat) (w : World) (hc : w.cell? ⟨p, 1, none⟩ = some (.slice A n c)) :
    Calls Try.prog 10 #[.pointer (some ⟨p, 0, none⟩)] w fun e w' => e = .returned (.int .i64 n) ∧ w = w' := by
  go_enter Try.func10, Try.ntmps10
  go_wp2
  go_ret
  exact ⟨rfl, rfl⟩

theorem len_any {w : World} {F : Nat → Prop} {p : Nat} {places : Int} {l : List WItem} (h : WRep w F p places l) :
    Calls Try.prog 10 #[.pointer (some ⟨p, 0, none⟩)] w fun e w' => e = .returned (.int .i64 l.length) ∧ w = w' := by
  obtain ⟨v, rs, h1, h2, h3, h4, h5, h6⟩ := h
  obtain ⟨A, c, rfl, hlc, hrow⟩ := WRow.of_owns h4 h5
  obtain ⟨k0, k1, kf⟩ := WRep.cell0 h1
  exact len_at p A l.length c w k1

theorem find_nil (id : ByteArray) (w : World) :
    Calls Try.prog 24 #[.pointer none, .string id] w fun e w' => e = .returned (.int .i64 (-1)) ∧ Below w.heap.size w w' := by
  go_enter Try.func24, Try.ntmps24
  go_wp2
  go_ret
  exact ⟨rfl, (Below.refl _ _).alloc (Nat.le_refl _) _⟩

theorem find_any {w : World} {F : Nat → Prop} {p : Nat} {places : Int} {l : List WItem} (id : ByteArray) (h : WRep w F p places l) (hm : l.length ≤ maxLen) :
    Calls Try.prog 24 #[.pointer (some ⟨p, 0, none⟩), .string id] w fun e w' => e = .returned (.int .i64 (findIx l id)) ∧ Below w.heap.size w w' := by
  have hp := h.lt
  obtain ⟨v, rs, h1, h2, h3, h4, h5, h6⟩ := h
  obtain ⟨A, c, rfl, hlc, hrow⟩ := WRow.of_owns h4 h5
  obtain ⟨k0, k1, kf⟩ := WRep.cell0 h1
  have hb1 : Below w.heap.size w (w.alloc (.cells #[.string id] 9)) := (Below.refl _ _).alloc (Nat.le_refl _) _
  have j1 := (hb1.cell (p := ⟨p, 1, none⟩) hp).trans k1
  have hrow1 := Lib.hid (hrow.below hb1)
  have hrow := Lib.hid hrow
  clear h1 h3 h4 h5 h6 h2
  go_enter Try.func24, Try.ntmps24
  go_wp2_with (go_at_call 29; refine (indexFunc_any A c l rs _ _ id hm hrow1.out (by simp) (by simp)).mono ?_; rintro e w' ⟨rfl, hb'⟩)
  go_ret
  exact ⟨rfl, hb1.trans (hb'.mono (by simp))⟩

def hasIx (l : List WItem) (id : ByteArray) : Bool := decide (0 ≤ findIx l id)

theorem has_nil (id : ByteArray) (w : World) :
    Calls Try.prog 17 #[.pointer none, .string id] w fun e w' => e = .returned (.bool false) ∧ Below w.heap.size w w' := by
  go_enter Try.func17, Try.ntmps17
  go_wp2_with (go_at_call 24; refine (find_nil id _).mono ?_; rintro e w' ⟨rfl, hb'⟩)
  go_ret
  exact ⟨rfl, hb'⟩

theorem has_any {w : World} {F : Nat → Prop} {p : Nat} {places : Int} {l : List WItem} (id : ByteArray) (h : WRep w F p places l) (hm : l.length ≤ maxLen) :
    Calls Try.prog 17 #[.pointer (some ⟨p, 0, none⟩), .string id] w fun e w' => e = .returned (.bool (hasIx l id)) ∧ Below w.heap.size w w' := by
  have H := Lib.hid h
  clear h
  go_enter Try.func17, Try.ntmps17
  go_wp2_with (go_at_call 24; refine (find_any id H.out hm).mono ?_; rintro e w' ⟨rfl, hb'⟩)
  go_ret
  exact ⟨rfl, hb'⟩

end Go.Proofs.Ytaecjkffemmpcaa
