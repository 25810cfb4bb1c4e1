/- Package store walked. -/
import Derived.Test.YtdogmcpmlglkfaaDoorZB
import Derived.Deep.AppendSrc

namespace Go.Proofs.YtdogmcpmlglkfaaDoor
open Go.RowKit Go.Proofs.YtdogmcpmlglkfaaDoorW.PrintWords

/-- v is a slice over a block of the call's own, whatever its offset; its elements are xs. -/
def QOwn (w : World) (B : Nat) (e : TypeId) (v : Value) (xs : List ByteArray) : Prop :=
  (v = .slice none 0 0 ∧ xs = []) ∨
  ∃ g off cap cur, v = .slice (some ⟨g, off, none⟩) xs.length cap ∧ B ≤ g ∧ w.heap[g]? = some (.cells cur e (0, 0)) ∧ xs.length ≤ cap ∧ cap ≤ maxLen ∧ off + cap ≤ cur.size ∧
    ∀ j x, xs[j]? = some x → cur[off + j]? = some (.string x)

theorem QOwn.nil (w : World) (B : Nat) (e : TypeId) : QOwn w B e (.slice none 0 0) [] := .inl ⟨rfl, rfl⟩

theorem QOwn.lt {w : World} {B : Nat} {e : TypeId} {v : Value} {xs : List ByteArray} (h : QOwn w B e v xs) {k : Nat} (hk : v.ownBlock = some k) : B ≤ k ∧ k < w.heap.size := by
  rcases h with ⟨rfl, _⟩ | ⟨g, off, cap, cur, rfl, hb, hg, _⟩
  · cases hk
  · cases hk
    exact ⟨hb, (Array.getElem?_eq_some_iff.1 hg).1⟩

theorem QOwn.move {w w' : World} {B : Nat} {e : TypeId} {v : Value} {xs : List ByteArray} (h : QOwn w B e v xs) (hm : ∀ k, v.ownBlock = some k → w'.heap[k]? = w.heap[k]?) : QOwn w' B e v xs := by
  rcases h with h | ⟨g, off, cap, cur, rfl, hb, hg, r⟩
  · exact .inl h
  · exact .inr ⟨g, off, cap, cur, rfl, hb, (hm g rfl).trans hg, r⟩

theorem QOwn.below {w w' : World} {B : Nat} {e : TypeId} {v : Value} {xs : List ByteArray} (h : QOwn w B e v xs) (hb : Below w.heap.size w w') : QOwn w' B e v xs := h.move fun k hk => hb.block k (h.lt hk).2
theorem QOwn.weaken {w : World} {B C : Nat} {e : TypeId} {v : Value} {xs : List ByteArray} (h : QOwn w B e v xs) (hc : C ≤ B) : QOwn w C e v xs := by
  rcases h with h | ⟨g, off, cap, cur, rfl, hb, r⟩
  · exact .inl h
  · exact .inr ⟨g, off, cap, cur, rfl, by omega, r⟩

theorem QOwn.slice {w : World} {B : Nat} {e : TypeId} {v : Value} {xs : List ByteArray} (h : QOwn w B e v xs) : ∃ A c, v = .slice A xs.length c ∧ xs.length ≤ c := by
  rcases h with ⟨rfl, rfl⟩ | ⟨g, off, cap, cur, rfl, _, _, hc, _⟩
  · exact ⟨none, 0, rfl, Nat.le_refl _⟩
  · exact ⟨_, cap, rfl, hc⟩

theorem QOwn.read {w : World} {B : Nat} {e : TypeId} {v : Value} {xs : List ByteArray} (h : QOwn w B e v xs) (hl : xs.length ≤ 1000000) : ∃ A c, v = .slice A xs.length c ∧ xs.length ≤ c ∧ Kd.C Kd.string w A xs.length xs := by
  rcases h with ⟨rfl, rfl⟩ | ⟨g, off, cap, cur, rfl, _, hg, hc, _, _, hr⟩
  · exact ⟨none, 0, rfl, Nat.le_refl _, rfl, by simp, fun h => absurd h (Nat.lt_irrefl _)⟩
  · refine ⟨_, cap, rfl, hc, rfl, by omega, fun _ => ⟨_, rfl, fun j p hj => ⟨[.string p], rfl, rfl, fun i u hi => ?_⟩⟩⟩
    have hi0 : i = 0 := by
      have := (List.getElem?_eq_some_iff.1 hi).1
      simp at this
      exact this
    subst hi0
    simp only [List.getElem?_cons_zero, Option.some.injEq] at hi
    subst hi
    show w.cell? ((⟨g, off, none⟩ : Addr).add (j * 1 + 0)) = _
    rw [Nat.mul_one, Nat.add_zero, addk']
    simp only [World.cell?, hg]
    exact hr j p hj

theorem QOwn.of_own {w : World} {B : Nat} {e : TypeId} {v : Value} {xs : List ByteArray} (h : w.ownsRow B e 1 v xs.length (xs.map Value.string)) : QOwn w B e v xs := by
  rcases h.2 with ⟨rfl, h0⟩ | ⟨g, cap, cur, rfl, hb, hg, hn, hm, hs, ht⟩
  · exact .inl ⟨rfl, List.eq_nil_of_length_eq_zero h0⟩
  · refine .inr ⟨g, 0, cap, cur, rfl, hb, hg, hn, hm, by omega, fun j x hj => ?_⟩
    have hl := (List.getElem?_eq_some_iff.1 hj).1
    have h1 := congrArg (·[j]?) ht
    simp only [List.getElem?_map, hj, Option.map_some, List.getElem?_take] at h1
    rw [if_pos (by omega)] at h1
    rw [Nat.zero_add, ← Array.getElem?_toList]
    exact h1

theorem QOwn.tail {w : World} {B : Nat} {e : TypeId} {A : Option Addr} {n c : Nat} {x : ByteArray} {xs : List ByteArray} (h : QOwn w B e (.slice A n c) (x :: xs)) : QOwn w B e (sliced A 1 n c 1) xs := by
  rcases h with ⟨_, h0⟩ | ⟨g, off, cap, cur, hv, hb, hg, hc, hm, hs, hr⟩
  · cases h0
  · simp only [Value.slice.injEq] at hv
    obtain ⟨rfl, rfl, rfl⟩ := hv
    simp only [List.length_cons] at hc ⊢
    unfold sliced
    by_cases h1 : c = 1
    · rw [if_pos h1]
      have h0 : xs = [] := List.eq_nil_of_length_eq_zero (by omega)
      subst h0
      exact .inr ⟨g, off, c - 1, cur, rfl, hb, hg, by simp, by omega, by omega, fun j x hj => by simp at hj⟩
    · rw [if_neg h1]
      refine .inr ⟨g, off + 1, c - 1, cur, ?_, hb, hg, by omega, by omega, by omega, fun j x hj => ?_⟩
      · simp only [Option.map_some, Nat.mul_one, addk', Nat.add_sub_cancel]
      · rw [show off + 1 + j = off + (j + 1) by omega]
        exact hr (j + 1) x (by simpa using hj)

theorem QOwn.cells {w : World} {B : Nat} {e : TypeId} {g off n c : Nat} {xs : List ByteArray} (h : QOwn w B e (.slice (some ⟨g, off, none⟩) n c) xs) : ∀ j u, (xs.map Value.string)[j]? = some u → w.cell? ((⟨g, off, none⟩ : Addr).add j) = some u := by
  rcases h with ⟨h0, _⟩ | ⟨g', off', cap, cur, hv, _, hg, _, _, _, hr⟩
  · cases h0
  · simp only [Value.slice.injEq, Option.some.injEq, Addr.mk.injEq] at hv
    obtain ⟨⟨rfl, rfl, _⟩, rfl, rfl⟩ := hv
    intro j u hu
    simp only [List.getElem?_map, Option.map_eq_some_iff] at hu
    obtain ⟨x, hx, rfl⟩ := hu
    rw [addk']
    simp only [World.cell?, hg]
    exact hr j x hx

theorem run_append_q {P : Program} (w : World) (B : Nat) (t ty e : TypeId) (i : TypeInfo) (ht : P.underlying t = some (.slice e)) (hi : P.info? e = some i) (hz : i.zero = some (.string ⟨#[]⟩)) (hsize : i.size = 1) (hby : i.bytes = 16)
    (v : Value) (xs : List ByteArray) (y : ByteArray) (h : QOwn w B e v xs) (ad : Addr) (c : Nat) (hy : w.cell? ad = some (.string y)) (hl : xs.length ≤ 1000000) (hbase : B ≤ w.heap.size) :
    ∃ v' w', (Builtin.append_ #[t, t] ty #[v, .slice (some ad) 1 c]).run P w = .ok v' w' ∧ QOwn w' B e v' (xs ++ [y]) ∧ w.grownBy w' v.ownBlock ∧ (v'.ownBlock = v.ownBlock ∨ v'.ownBlock = some w.heap.size) := by
  have hsrc : Src P i.size t (.slice (some ad) 1 c) 1 [.string y] w := Src.ofSlice w ht ad 1 c _ (by rw [hsize]; rfl) (fun j u hu => by
    have hj := (List.getElem?_eq_some_iff.1 hu).1
    have hj0 : j = 0 := by simp at hj; exact hj
    subst hj0
    simp only [List.getElem?_cons_zero, Option.some.injEq] at hu
    subst hu
    have e0 : ad.add 0 = ad := by unfold Addr.add; split <;> simp_all
    rw [e0]; exact hy) (by intro u hu; simp only [List.mem_singleton] at hu; subst hu; rfl)
  have hc := fun g off n c (hv : v = .slice (some ⟨g, off, none⟩) n c) => QOwn.cells (g := g) (off := off) (n := n) (c := c) (hv ▸ h)
  have grow : ∀ (bs : Option Addr) (sc : Nat), v = .slice bs xs.length sc → sc < xs.length + 1 → (Builtin.firstCells i.size xs.length (.slice bs xs.length sc)).run P w.drew = .ok (xs.map Value.string).toArray w.drew →
      ∃ v' w', (Builtin.append_ #[t, t] ty #[v, .slice (some ad) 1 c]).run P w = .ok v' w' ∧ QOwn w' B e v' (xs ++ [y]) ∧ w.grownBy w' v.ownBlock ∧ (v'.ownBlock = v.ownBlock ∨ v'.ownBlock = some w.heap.size) := by
    intro bs sc hv hs hf
    rw [hv]
    have hrun := run_append_grow_src (P := P) w t t ty e i _ ht hi hz bs xs.length sc (xs.map Value.string) hf (.slice (some ad) 1 c) 1 [.string y] hsrc hs (by omega) (growslice_fits hs (by rw [hby]; omega))
    have hge := grownCap_ge w (xs.length + 1) sc e
    have hle := grownCap_le_maxLen w (xs.length + 1) sc e (by simp only [maxLen]; omega)
    refine ⟨_, _, hrun, .inr ⟨w.heap.size, 0, grownCap w (xs.length + 1) sc e, _, by rw [List.length_append]; rfl, hbase, heap_alloc_new w.drew _, by rw [List.length_append]; exact hge, hle, ?_, ?_⟩, ⟨rfl, rfl, rfl, by simp, fun k hk _ => Below.heap_alloc w.drew _ k hk⟩, .inr rfl⟩
    · simp only [Array.size_append, List.size_toArray, List.length_append, List.length_map, List.length_cons, List.length_nil, size_zeroCells]
      have : (Value.string ⟨#[]⟩).cells.size = 1 := rfl
      rw [this]
      omega
    · intro j x hj
      have hjl := (List.getElem?_eq_some_iff.1 hj).1
      rw [Nat.zero_add, Array.getElem?_append_left (by simpa using hjl), List.getElem?_toArray]
      rw [show xs.map Value.string ++ [Value.string y] = (xs ++ [y]).map Value.string by simp, List.getElem?_map, hj]
      rfl
  have h0 := h
  rcases h with ⟨rfl, rfl⟩ | ⟨g, off, cap, cur, rfl, hb, hg, hcap, hm, hs, hr⟩
  · exact grow none 0 rfl (by simp) (run_firstCells_none w.drew i.size 0 0 0)
  · by_cases hroom : xs.length + 1 ≤ cap
    · have hlt : off + xs.length < cur.size := by omega
      have hcell : w.cell? ⟨g, off + xs.length * i.size + 0, none⟩ = some cur[off + xs.length] := by
        rw [hsize, Nat.mul_one, Nat.add_zero]
        simp only [World.cell?, hg]
        exact Array.getElem?_eq_getElem hlt
      have hrun := run_append_room_src (P := P) w t t ty e i ht hi g off xs.length cap (.slice (some ad) 1 c) 1 [.string y] hsrc hroom
        (fun j hj => by obtain rfl : j = 0 := by simpa using hj
                        rw [hcell]; rfl)
        (fun j _ => by simp [World.frozen?, hg])
      rw [hsize, Nat.mul_one] at hrun
      have hset : (w.setCell ⟨g, off + xs.length, none⟩ (.string y)).heap[g]? = some (.cells (cur.setIfInBounds (off + xs.length) (.string y)) e (0, 0)) := setCell_row _ hg
      refine ⟨_, _, hrun, .inr ⟨g, off, cap, cur.setIfInBounds (off + xs.length) (.string y), by rw [List.length_append]; rfl, hb, hset, by rw [List.length_append]; exact hroom, hm, by simpa using hs, ?_⟩, ⟨rfl, rfl, rfl, by simp [World.setCells, World.setCell], fun k _ hk => Below.heap_setCell _ _ _ _ (fun e => hk (by simp [Value.ownBlock, e]))⟩, .inl rfl⟩
      intro j x hj
      by_cases hjl : j < xs.length
      · rw [List.getElem?_append_left hjl] at hj
        rw [Array.getElem?_setIfInBounds_ne (by omega)]
        exact hr j x hj
      · have hjt := (List.getElem?_eq_some_iff.1 hj).1
        rw [List.length_append] at hjt
        have e1 : j = xs.length := by simp at hjt; omega
        subst e1
        rw [List.getElem?_append_right (Nat.le_refl _), Nat.sub_self] at hj
        simp only [List.getElem?_cons_zero, Option.some.injEq] at hj
        subst hj
        rw [Array.getElem?_setIfInBounds_self_of_lt hlt]
    · exact grow _ cap rfl (by omega) (run_firstCells_some w.drew i.size xs.length ⟨g, off, none⟩ xs.length cap (xs.map Value.string) (by rw [List.length_map, hsize, Nat.mul_one]) (fun j u hu => hc g off _ _ rfl j u hu))

theorem wpList_append_q {P : Program} (w : World) {ops : Array Oper} {rest : List Oper} {o : Oper} {a : Act} {Q : Exit → Act → World → Prop} (hgd : o.guard = none) (s x : Operand) (t : TypeId)
    (ho : o.op = .call { callee := .builtin .append, args := #[s, x], argTypes := #[t, t] })
    (B : Nat) (e : TypeId) (i : TypeInfo) (ht : P.underlying t = some (.slice e)) (hi : P.info? e = some i) (hz : i.zero = some (.string ⟨#[]⟩)) (hsize : i.size = 1) (hby : i.bytes = 16)
    (v : Value) (xs : List ByteArray) (y : ByteArray) (hs : a.eval s = v) (hq : QOwn w B e v xs) (ad : Addr) (c : Nat) (hx : a.eval x = .slice (some ad) 1 c) (hy : w.cell? ad = some (.string y)) (hl : xs.length ≤ 1000000) (hbase : B ≤ w.heap.size)
    (h : ∀ v' w', QOwn w' B e v' (xs ++ [y]) → w.grownBy w' v.ownBlock → (v'.ownBlock = v.ownBlock ∨ v'.ownBlock = some w.heap.size) → wpList P ops Q rest (a.put o.dst v') w') :
    wpList P ops Q (o :: rest) a w := by
  refine wpList_plain hgd fun K hK => ?_
  obtain ⟨v', w', hrun, h2, h3, h5⟩ := run_append_q (P := P) w B t o.type e i ht hi hz hsize hby v xs y hq ad c hy hl hbase
  unfold Oper.wp execOp
  simp only [ho, resolve, invoke, builtin, Sem.run_bind, Sem.run_pure, Result.andThen_ok, List.map_toArray, List.map_cons, List.map_nil, hs, hx, hrun]
  exact hK _ _ (h v' w' h2 h3 h5)

end Go.Proofs.YtdogmcpmlglkfaaDoor

namespace Go.Proofs.YtdogmcpmlglkfaaDoor
open Go.RowKit Go.Proofs.YtdogmcpmlglkfaaDoorW.PrintWords

structure SSt where
  room : ByteArray
  events : List ByteArray
  used : Int
  queue : List ByteArray

def s0 : SSt := ⟨⟨#[]⟩, [], 0, []⟩

/-- Block g is a store whose log is in block q. -/
structure StAt (w : World) (B g q : Nat) (S : SSt) (ev qu : Value) : Prop where
  blk : w.heap[g]? = some (.cells #[.string S.room, ev, .int .i64 S.used, qu, .pointer (some ⟨q, 0, none⟩)] 70)
  evs : QOwn w B 9 ev S.events
  qus : QOwn w B 9 qu S.queue
  apart : ∀ k, ev.ownBlock = some k → qu.ownBlock ≠ some k
  base : B ≤ g

def StRep (w : World) (B g q : Nat) (S : SSt) : Prop := ∃ ev qu, StAt w B g q S ev qu

def rest1 (rec : ByteArray) : ByteArray := rec.extract 1 rec.size

/-- What takes answers, and the state behind it. -/
def takesF (S : SSt) (rec : ByteArray) : SSt × Bool :=
  match rec.data[0]? with
  | none => (S, false)
  | some k =>
    if k.toNat = 82 then ({ S with room := rest1 rec }, decide ((rest1 rec).size = 32))
    else if k.toNat = 69 then ({ S with events := S.events ++ [rest1 rec] }, true)
    else if k.toNat = 75 then ({ S with used := max S.used (num (tk (rest1 rec) false 2).1) }, !(tk (rest1 rec) false 2).2.2 && decide ((tk (rest1 rec) false 2).2.1.size = 0))
    else if k.toNat = 81 then ({ S with queue := S.queue ++ [rest1 rec] }, true)
    else if k.toNat = 68 then (if (rest1 rec).size ≠ 0 ∨ S.queue = [] then (S, false) else ({ S with queue := S.queue.tail }, true))
    else (S, false)

theorem StAt.lt {w : World} {B g q : Nat} {S : SSt} {ev qu : Value} (h : StAt w B g q S ev qu) : g < w.heap.size := (Array.getElem?_eq_some_iff.1 h.blk).1

theorem QOwn.kind {w : World} {B : Nat} {e : TypeId} {v : Value} {xs : List ByteArray} (h : QOwn w B e v xs) {k : Nat} (hk : v.ownBlock = some k) : ∃ cur, w.heap[k]? = some (.cells cur e (0, 0)) := by
  rcases h with ⟨rfl, _⟩ | ⟨g, off, cap, cur, rfl, hb, hg, _⟩
  · cases hk
  · cases hk
    exact ⟨cur, hg⟩

theorem StAt.ne_ev {w : World} {B g q : Nat} {S : SSt} {ev qu : Value} (h : StAt w B g q S ev qu) : ev.ownBlock ≠ some g := fun e => by
  obtain ⟨c, hc⟩ := h.evs.kind e
  rw [h.blk] at hc
  simp only [Option.some.injEq, Obj.cells.injEq] at hc
  exact absurd hc.2.1 (by decide)
theorem StAt.ne_qu {w : World} {B g q : Nat} {S : SSt} {ev qu : Value} (h : StAt w B g q S ev qu) : qu.ownBlock ≠ some g := fun e => by
  obtain ⟨c, hc⟩ := h.qus.kind e
  rw [h.blk] at hc
  simp only [Option.some.injEq, Obj.cells.injEq] at hc
  exact absurd hc.2.1 (by decide)

theorem StAt.below {w w' : World} {B g q : Nat} {S : SSt} {ev qu : Value} (h : StAt w B g q S ev qu) (hb : Below w.heap.size w w') : StAt w' B g q S ev qu :=
  ⟨(hb.block g h.lt).trans h.blk, h.evs.below hb, h.qus.below hb, h.apart, h.base⟩

theorem StAt.set {w : World} {B g q : Nat} {S S' : SSt} {ev qu : Value} (h : StAt w B g q S ev qu) (j : Nat) (v : Value) (he : S'.events = S.events) (hq : S'.queue = S.queue)
    (hs : #[.string S.room, ev, .int .i64 S.used, qu, .pointer (some ⟨q, 0, none⟩)].setIfInBounds j v = #[.string S'.room, ev, .int .i64 S'.used, qu, .pointer (some ⟨q, 0, none⟩)]) : StAt (w.setCell ⟨g, j, none⟩ v) B g q S' ev qu := by
  refine ⟨by rw [← hs]; exact setCell_row _ h.blk, ?_, ?_, h.apart, h.base⟩
  · rw [he]; exact h.evs.move fun k hk => Below.heap_setCell _ _ _ _ (fun e => h.ne_ev (by rw [hk]; exact congrArg some e))
  · rw [hq]; exact h.qus.move fun k hk => Below.heap_setCell _ _ _ _ (fun e => h.ne_qu (by rw [hk]; exact congrArg some e))

/-- Behind an append to the events, before it is stored. -/
theorem StAt.setEv {w w8 : World} {B g q : Nat} {S : SSt} {ev qu v' : Value} {o : Obj} {y : ByteArray} (h : StAt w B g q S ev qu) (hq : QOwn w8 B 9 v' (S.events ++ [y])) (hg : (w.alloc o).grownBy w8 ev.ownBlock)
    (hat : v'.ownBlock = ev.ownBlock ∨ v'.ownBlock = some (w.alloc o).heap.size) : StAt (w8.setCell ⟨g, 1, none⟩ v') B g q { S with events := S.events ++ [y] } v' qu := by
  have hgl := h.lt
  have hb : ∀ k, k < w.heap.size → some k ≠ ev.ownBlock → w8.heap[k]? = w.heap[k]? := fun k hk hn => (hg.block k (by rw [asz]; omega) hn).trans (Below.heap_alloc _ _ _ hk)
  have hblk : w8.heap[g]? = some (.cells #[.string S.room, ev, .int .i64 S.used, qu, .pointer (some ⟨q, 0, none⟩)] 70) := (hb g hgl (fun e => h.ne_ev e.symm)).trans h.blk
  have hvg : v'.ownBlock ≠ some g := by
    rcases hat with e | e <;> rw [e]
    · exact h.ne_ev
    · rw [asz]; simp only [ne_eq, Option.some.injEq]; omega
  refine ⟨setCell_row _ hblk, ?_, ?_, ?_, h.base⟩
  · exact hq.move fun k hk => Below.heap_setCell _ _ _ _ (fun e => hvg (by rw [hk]; exact congrArg some e))
  · refine h.qus.move fun k hk => (Below.heap_setCell _ _ _ _ (fun e => h.ne_qu (by rw [hk]; exact congrArg some e))).trans (hb k (h.qus.lt hk).2 (fun e => h.apart k e.symm hk))
  · intro k hk
    rcases hat with e | e
    · exact h.apart k (e ▸ hk)
    · intro hq2
      have := (h.qus.lt hq2).2
      rw [e, asz] at hk
      simp only [Option.some.injEq] at hk
      omega

/-- Behind an append to the queue, before it is stored. -/
theorem StAt.setQu {w w8 : World} {B g q : Nat} {S : SSt} {ev qu v' : Value} {o : Obj} {y : ByteArray} (h : StAt w B g q S ev qu) (hq : QOwn w8 B 9 v' (S.queue ++ [y])) (hg : (w.alloc o).grownBy w8 qu.ownBlock)
    (hat : v'.ownBlock = qu.ownBlock ∨ v'.ownBlock = some (w.alloc o).heap.size) : StAt (w8.setCell ⟨g, 3, none⟩ v') B g q { S with queue := S.queue ++ [y] } ev v' := by
  have hgl := h.lt
  have hb : ∀ k, k < w.heap.size → some k ≠ qu.ownBlock → w8.heap[k]? = w.heap[k]? := fun k hk hn => (hg.block k (by rw [asz]; omega) hn).trans (Below.heap_alloc _ _ _ hk)
  have hblk : w8.heap[g]? = some (.cells #[.string S.room, ev, .int .i64 S.used, qu, .pointer (some ⟨q, 0, none⟩)] 70) := (hb g hgl (fun e => h.ne_qu e.symm)).trans h.blk
  have hvg : v'.ownBlock ≠ some g := by
    rcases hat with e | e <;> rw [e]
    · exact h.ne_qu
    · rw [asz]; simp only [ne_eq, Option.some.injEq]; omega
  refine ⟨setCell_row _ hblk, ?_, ?_, ?_, h.base⟩
  · refine h.evs.move fun k hk => (Below.heap_setCell _ _ _ _ (fun e => h.ne_ev (by rw [hk]; exact congrArg some e))).trans (hb k (h.evs.lt hk).2 (fun e => h.apart k hk e.symm))
  · exact hq.move fun k hk => Below.heap_setCell _ _ _ _ (fun e => hvg (by rw [hk]; exact congrArg some e))
  · intro k hk hk2
    rcases hat with e | e
    · exact h.apart k hk (e ▸ hk2)
    · have := (h.evs.lt hk).2
      rw [e, asz] at hk2
      simp only [Option.some.injEq] at hk2
      omega

theorem sliced_own (A : Option Addr) (n c : Nat) : (sliced A 1 n c 1).ownBlock = (Value.slice A n c).ownBlock := by
  cases A with
  | none => unfold sliced; split <;> rfl
  | some a =>
    unfold sliced
    split
    · rfl
    · exact congrArg some (addr_block a _)

theorem StAt.dropQu {w : World} {B g q n c : Nat} {S : SSt} {ev : Value} {A : Option Addr} {y : ByteArray} {ys : List ByteArray} (h : StAt w B g q S ev (.slice A n c)) (hq : S.queue = y :: ys) :
    StAt (w.setCell ⟨g, 3, none⟩ (sliced A 1 n c 1)) B g q { S with queue := ys } ev (sliced A 1 n c 1) := by
  refine ⟨setCell_row _ h.blk, ?_, ?_, ?_, h.base⟩
  · exact h.evs.move fun k hk => Below.heap_setCell _ _ _ _ (fun e => h.ne_ev (by rw [hk]; exact congrArg some e))
  · have h1 := h.qus
    rw [hq] at h1
    exact h1.tail.move fun k hk => Below.heap_setCell _ _ _ _ (fun e => h.ne_qu (by rw [← sliced_own, hk]; exact congrArg some e))
  · intro k hk
    rw [sliced_own]
    exact h.apart k hk

theorem below_set8 {w w8 : World} {B g j : Nat} {o : Obj} {row : Option Nat} (hB : B ≤ g) (hg : g < w.heap.size) (h : (w.alloc o).grownBy w8 row) (hr : ∀ k, row = some k → B ≤ k) (v : Value) : Below B w (w8.setCell ⟨g, j, none⟩ v) :=
  ((((Below.refl B w).alloc (by omega) o).grown h (by rw [asz]; omega) hr).setCell (p := ⟨g, j, none⟩) hB _)

/-- What takes may turn of what is there. -/
def Touch (g : Nat) (ev qu : Value) (b : Nat) : Prop := b = g ∨ ev.ownBlock = some b ∨ qu.ownBlock = some b
/-- A row where it lay, or in a new block. -/
def Newer (w : World) (v v' : Value) : Prop := ∀ b, v'.ownBlock = some b → v.ownBlock = some b ∨ w.heap.size ≤ b
theorem Newer.refl (w : World) (v : Value) : Newer w v v := fun _ h => .inl h
theorem Newer.len (w : World) (A : Option Addr) (n m c : Nat) : Newer w (.slice A n c) (.slice A m c) := by
  cases A
  · exact fun _ h => .inl h
  · exact fun _ h => .inl h
theorem Newer.at {w : World} {o : Obj} {v v' : Value} (h : v'.ownBlock = v.ownBlock ∨ v'.ownBlock = some (w.alloc o).heap.size) : Newer w v v' := fun b hb => by
  rcases h with e | e
  · exact .inl (e ▸ hb)
  · rw [e, asz] at hb
    simp only [Option.some.injEq] at hb
    exact .inr (by omega)

set_option maxHeartbeats 4000000 in
set_option maxRecDepth 100000 in
theorem takes_ft {w : World} {B g q : Nat} {S : SSt} {ev qu : Value} (rec : ByteArray) (hst : StAt w B g q S ev qu) (hsz : S.events.length ≤ 1000000 ∧ S.queue.length ≤ 1000000) :
    Calls Tryd.prog 31 #[.pointer (some ⟨g, 0, none⟩), .string rec] w fun e w' => e = .returned (.bool (takesF S rec).2) ∧ ∃ ev' qu', StAt w' B g q (takesF S rec).1 ev' qu' ∧ Fr (Touch g ev qu) w w' ∧ Newer w ev ev' ∧ Newer w qu qu' := by
  have HST := Lib.hid hst
  obtain ⟨c0, c1, c2, c3, _, cf⟩ := box5 hst.blk
  have cf0 := cf 0
  have cf1 := cf 1
  have cf2 := cf 2
  have cf3 := cf 3
  obtain ⟨F, hF⟩ : ∃ F, F = takesF S rec := ⟨_, rfl⟩
  rw [← hF]
  unfold takesF at hF
  clear hst cf
  by_cases hr : rec.size = 0
  · have hd : rec.data[0]? = none := Array.getElem?_eq_none (show rec.data.size ≤ 0 by show rec.size ≤ 0; omega)
    rw [hd] at hF
    have hr1 : rec.toList = [] := by rw [ByteArray.toList_eq]; exact List.eq_nil_of_length_eq_zero (by rw [Array.length_toList]; exact hr)
    subst hF
    go_enter Tryd.func31, Tryd.ntmps31
    go_wp2_with fail
    go_ret
    exact ⟨rfl, ev, qu, HST.out, Fr.refl _ _, Newer.refl _ _, Newer.refl _ _⟩
  · obtain ⟨k, hk⟩ : ∃ k, rec.data[0]? = some k := ⟨_, Array.getElem?_eq_getElem (show 0 < rec.data.size by show 0 < rec.size; omega)⟩
    rw [hk] at hF
    simp only at hF
    have hr1 : ¬ rec.toList = [] := fun h => hr (toList_nil_size h)
    have hr2 : rec.toList.isEmpty = false := by rw [Bool.eq_false_iff]; intro h; exact hr1 (List.isEmpty_iff.1 h)
    have hr3 : 0 < rec.size := by omega
    have hk0 : rec[0] = k := Option.some.inj ((Array.getElem?_eq_getElem (xs := rec.data) (i := 0) hr3).symm.trans hk)
    obtain ⟨rt, hrt⟩ : ∃ rt, rt = rest1 rec := ⟨_, rfl⟩
    have hrt2 : rec.extract 1 rec.size = rt := by rw [hrt]; rfl
    rw [← hrt] at hF
    obtain ⟨n, hn⟩ : ∃ n : Int, n = (k.toNat : Int) := ⟨_, rfl⟩
    have e1 : k.toNat = 82 ↔ n = 82 := by omega
    have e2 : k.toNat = 69 ↔ n = 69 := by omega
    have e3 : k.toNat = 75 ↔ n = 75 := by omega
    have e4 : k.toNat = 81 ↔ n = 81 := by omega
    have e5 : k.toNat = 68 ↔ n = 68 := by omega
    simp only [e1, e2, e3, e4, e5] at hF
    clear hrt hk e1 e2 e3 e4 e5
    go_enter Tryd.func31, Tryd.ntmps31
    go_upto_region 6 with fail
    rw [← hn]
    clear hk0 hn hrt2 hr1 hr2 hr3
    by_cases h82 : n = 82
    · subst h82
      rw [if_pos rfl] at hF
      subst hF
      go_wp2_with fail
      go_ret
      have hb : ((rt.size : Int) == 32) = decide (rt.size = 32) := by rw [Bool.eq_iff_iff]; simp; omega
      exact ⟨by show Ending.returned (.bool ((rt.size : Int) == 32)) = _; rw [hb], ev, qu, HST.out.set 0 _ rfl rfl rfl, (Fr.refl _ _).setCell (p := ⟨g, 0, none⟩) (.inr (.inl rfl)) _, Newer.refl _ _, Newer.refl _ _⟩
    · rw [if_neg h82] at hF
      by_cases h69 : n = 69
      · subst h69
        rw [if_pos rfl] at hF
        subst hF
        obtain ⟨A, c, rfl, hac⟩ := HST.out.evs.slice
        obtain ⟨i0, hii0, hz0, hz1, hz2⟩ := info_parts info_str
        have hgl := HST.out.lt
        go_wp2_with (at_builtin; refine wpList_append_q _ rfl (.tmp 28) (.tmp 30) 22 rfl B 9 i0 Tryd.underlying22 hii0 hz0 hz1 hz2 (.slice A S.events.length c) S.events rt rfl (HST.out.evs.below ((Below.refl _ _).alloc (Nat.le_refl _) _)) ⟨w.heap.size, 0, none⟩ 1 rfl (by rw [World.cell?, heap_alloc_new]; rfl) (by omega) (by have := HST.out.base; rw [asz]; omega) ?_; intro v' w8 hq8 hg8 hat8; obtain ⟨A8, c8, rfl, hac8⟩ := hq8.slice; rw [List.length_append] at hq8 hat8; have HQ8 := Lib.hid hq8; have HG8 := Lib.hid hg8; have HAT8 := Lib.hid hat8; have c18 : w8.cell? ⟨g, 1, none⟩ = some (.slice A S.events.length c) := (World.cell?_of_block ((hg8.block g (by rw [asz]; omega) (fun e => HST.out.ne_ev e.symm)).trans (Below.heap_alloc _ _ _ hgl))).trans c1; have cf18 : w8.frozen? ⟨g, 1, none⟩ = false := (World.frozen?_of_block ((hg8.block g (by rw [asz]; omega) (fun e => HST.out.ne_ev e.symm)).trans (Below.heap_alloc _ _ _ hgl))).trans cf1; clear hq8 hg8 hat8)
        go_ret
        exact ⟨rfl, _, _, HST.out.setEv HQ8.out HG8.out HAT8.out, (((Fr.refl _ _).alloc _).grown HG8.out (fun k hk => .inr (.inr (.inl hk)))).setCell (p := ⟨g, 1, none⟩) (.inr (.inl rfl)) _, Newer.at HAT8.out, Newer.refl _ _⟩
      · rw [if_neg h69] at hF
        by_cases h75 : n = 75
        · subst h75
          rw [if_pos rfl] at hF
          have HS := Lib.hid (fun (W : World) (h : RRep W w.heap.size rt false) => short_any h)
          have HE := Lib.hid (fun (W : World) (h : RRep W w.heap.size (tk rt false 2).2.1 (tk rt false 2).2.2) => end_any h)
          obtain ⟨⟨t1, t2, t3⟩, ht⟩ : ∃ X, X = tk rt false 2 := ⟨_, rfl⟩
          simp only [← ht] at HS HE hF
          obtain ⟨m, hm⟩ : ∃ m, m = num t1 := ⟨_, rfl⟩
          rw [← hm] at HS hF
          obtain ⟨x, hx⟩ : ∃ x, x = max S.used m := ⟨_, rfl⟩
          rw [← hx] at hF
          have hgl := HST.out.lt
          clear ht hm
          subst hF
          go_upto_region 13 with (go_at_call 52; refine (read_new rt w).mono ?_; rintro e w1 ⟨rfl, hr1, hb1⟩; have HR1 := Lib.hid hr1; have HB1 := Lib.hid hb1; have c21 := (hb1.cell (World.block_lt_of_cell? _ _ c2)).trans c2; have cf21 := (World.frozen?_of_block (a := ⟨g, 2, none⟩) (hb1.block g hgl)).trans cf2; clear hr1 hb1)
          have hg1 : g < w1.heap.size := World.block_lt_of_cell? _ _ c21
          go_region_with (go_at_call 53; refine (HS.out _ (show RRep w1.drew w.heap.size rt false from HR1.out)).mono ?_; rintro e w2 ⟨rfl, hr2, hf2⟩; have HR2 := Lib.hid hr2; have HF2 := Lib.hid hf2; have c22 : w2.cell? ⟨g, 2, none⟩ = some (.int .i64 S.used) := (hf2.cell (p := ⟨g, 2, none⟩) hg1 (by show ¬ g = w.heap.size; omega)).trans c21; have cf22 : w2.frozen? ⟨g, 2, none⟩ = false := (World.frozen?_of_block (a := ⟨g, 2, none⟩) (hf2.block g hg1 (by show ¬ g = w.heap.size; omega))).trans cf21; clear hr2 hf2)
          all_goals
            have hb2 : Below w.heap.size w w2 := HB1.out.drew.trans (Fr.to_below HF2.out HB1.out.size (fun k hk => by omega))
            have hst2 := (HST.out.below hb2).set (S' := ⟨S.room, S.events, max S.used m, S.queue⟩) 2 (.int .i64 (max S.used m)) rfl rfl rfl
            have HR3 := Lib.hid (show RRep (w2.setCell ⟨g, 2, none⟩ (.int .i64 (max S.used m))) w.heap.size t2 t3 from (Below.heap_setCell _ _ _ _ (by show w.heap.size ≠ g; omega)).trans HR2.out)
            have HST3 := Lib.hid hst2
            have HB3 := Lib.hid (show Fr (Touch g ev qu) w (w2.setCell ⟨g, 2, none⟩ (.int .i64 (max S.used m))) from (Fr.of_below hb2).setCell (p := ⟨g, 2, none⟩) (.inr (.inl rfl)) _)
            obtain ⟨w3, hw3⟩ : ∃ w3, w3 = w2.setCell ⟨g, 2, none⟩ (.int .i64 (max S.used m)) := ⟨_, rfl⟩
            rw [← hw3] at HR3 HST3 HB3 ⊢
            clear hw3 hb2 hst2
            go_wp2_with (go_at_call 54; refine (HE.out _ HR3.out).mono ?_; rintro e w4 ⟨rfl, hb4⟩)
            go_ret
            exact ⟨rfl, ev, qu, HST3.out.below hb4, HB3.out.below hb4 HB3.out.size, Newer.refl _ _, Newer.refl _ _⟩
        · rw [if_neg h75] at hF
          by_cases h81 : n = 81
          · subst h81
            rw [if_pos rfl] at hF
            subst hF
            obtain ⟨A, c, rfl, hac⟩ := HST.out.qus.slice
            obtain ⟨i0, hii0, hz0, hz1, hz2⟩ := info_parts info_str
            have hgl := HST.out.lt
            go_wp2_with (at_builtin; refine wpList_append_q _ rfl (.tmp 56) (.tmp 58) 22 rfl B 9 i0 Tryd.underlying22 hii0 hz0 hz1 hz2 (.slice A S.queue.length c) S.queue rt rfl (HST.out.qus.below ((Below.refl _ _).alloc (Nat.le_refl _) _)) ⟨w.heap.size, 0, none⟩ 1 rfl (by rw [World.cell?, heap_alloc_new]; rfl) (by omega) (by have := HST.out.base; rw [asz]; omega) ?_; intro v' w8 hq8 hg8 hat8; obtain ⟨A8, c8, rfl, hac8⟩ := hq8.slice; rw [List.length_append] at hq8 hat8; have HQ8 := Lib.hid hq8; have HG8 := Lib.hid hg8; have HAT8 := Lib.hid hat8; have c38 : w8.cell? ⟨g, 3, none⟩ = some (.slice A S.queue.length c) := (World.cell?_of_block ((hg8.block g (by rw [asz]; omega) (fun e => HST.out.ne_qu e.symm)).trans (Below.heap_alloc _ _ _ hgl))).trans c3; have cf38 : w8.frozen? ⟨g, 3, none⟩ = false := (World.frozen?_of_block ((hg8.block g (by rw [asz]; omega) (fun e => HST.out.ne_qu e.symm)).trans (Below.heap_alloc _ _ _ hgl))).trans cf3; clear hq8 hg8 hat8)
            go_ret
            exact ⟨rfl, _, _, HST.out.setQu HQ8.out HG8.out HAT8.out, (((Fr.refl _ _).alloc _).grown HG8.out (fun k hk => .inr (.inr (.inr hk)))).setCell (p := ⟨g, 3, none⟩) (.inr (.inl rfl)) _, Newer.refl _ _, Newer.at HAT8.out⟩
          · rw [if_neg h81] at hF
            by_cases h68 : n = 68
            · subst h68
              rw [if_pos rfl] at hF
              by_cases hz : rt.toList = []
              · have hz1 : rt.size = 0 := toList_nil_size hz
                have hz2 : rt.toList.isEmpty = true := List.isEmpty_iff.2 hz
                cases hq : S.queue with
                | nil =>
                  rw [if_pos (.inr hq)] at hF
                  subst hF
                  obtain ⟨A, c, rfl, hac⟩ := HST.out.qus.slice
                  rw [hq] at c3
                  go_wp2_with fail
                  go_ret
                  exact ⟨rfl, ev, _, HST.out, Fr.refl _ _, Newer.refl _ _, Newer.len _ _ _ _ _⟩
                | cons y ys =>
                  rw [if_neg (by rintro (h | h); exact h hz1; rw [hq] at h; cases h)] at hF
                  subst hF
                  obtain ⟨A, c, rfl, hac⟩ := HST.out.qus.slice
                  have hb : Fr (Touch g ev (.slice A S.queue.length c)) w (w.setCell ⟨g, 3, none⟩ (sliced A 1 S.queue.length c 1)) ∧ Newer w (.slice A S.queue.length c) (sliced A 1 S.queue.length c 1) := ⟨(Fr.refl _ _).setCell (p := ⟨g, 3, none⟩) (.inr (.inl rfl)) _, fun b h => .inl (by rw [← sliced_own]; exact h)⟩
                  have hst := HST.out.dropQu hq
                  have HF := Lib.hid (And.intro hst hb)
                  rw [hq] at c3 hac HF
                  clear hst hb
                  by_cases hc1 : c = 1
                  · subst hc1
                    go_wp2_with fail
                    go_ret
                    exact ⟨rfl, ev, _, HF.out.1, HF.out.2.1, Newer.refl _ _, HF.out.2.2⟩
                  · go_wp2_with fail
                    go_ret
                    rw [sliced, if_neg hc1] at HF
                    exact ⟨rfl, ev, _, HF.out.1, HF.out.2.1, Newer.refl _ _, HF.out.2.2⟩
              · have hz1 : ¬ rt.size = 0 := fun h => hz (by rw [ByteArray.toList_eq]; exact List.eq_nil_of_length_eq_zero (by rw [Array.length_toList]; exact h))
                have hz2 : rt.toList.isEmpty = false := by rw [Bool.eq_false_iff]; intro h; exact hz (List.isEmpty_iff.1 h)
                rw [if_pos (.inl hz1)] at hF
                subst hF
                go_wp2_with fail
                go_ret
                exact ⟨rfl, ev, qu, HST.out, Fr.refl _ _, Newer.refl _ _, Newer.refl _ _⟩
            · rw [if_neg h68] at hF
              subst hF
              go_wp2_with fail
              go_ret
              exact ⟨rfl, ev, qu, HST.out, Fr.refl _ _, Newer.refl _ _, Newer.refl _ _⟩

theorem takes_any {w : World} {B g q : Nat} {S : SSt} (rec : ByteArray) (h : StRep w B g q S) (hsz : S.events.length ≤ 1000000 ∧ S.queue.length ≤ 1000000) :
    Calls Tryd.prog 31 #[.pointer (some ⟨g, 0, none⟩), .string rec] w fun e w' => e = .returned (.bool (takesF S rec).2) ∧ StRep w' B g q (takesF S rec).1 ∧ Below B w w' := by
  obtain ⟨ev, qu, hst⟩ := h
  refine (takes_ft rec hst hsz).mono ?_
  rintro e w' ⟨h1, ev', qu', h2, h3, _, _⟩
  refine ⟨h1, ⟨ev', qu', h2⟩, ⟨h3.os, h3.tape, h3.output, h3.size, fun k hk => h3.block k (by have := hst.lt; have := hst.base; omega) ?_⟩⟩
  rintro (e | e | e)
  · have := hst.base; omega
  · have := (hst.evs.lt e).1; omega
  · have := (hst.qus.lt e).1; omega

end Go.Proofs.YtdogmcpmlglkfaaDoor

namespace Go.Proofs.YtdogmcpmlglkfaaDoor
open Go.RowKit Go.Proofs.YtdogmcpmlglkfaaDoorW.PrintWords

/-- The state of records; none: one is none. -/
def takesL : SSt → List ByteArray → Option SSt
  | S, [] => some S
  | S, r :: rs => if (takesF S r).2 = true then takesL (takesF S r).1 rs else none

theorem takesL_append : ∀ (S : SSt) (a b : List ByteArray), takesL S (a ++ b) = (takesL S a).bind fun S' => takesL S' b
  | S, [], b => rfl
  | S, r :: rs, b => by
    rw [List.cons_append, takesL, takesL]
    split
    · exact takesL_append _ rs b
    · rfl

theorem takesF_len (S : SSt) (rec : ByteArray) : (takesF S rec).1.events.length ≤ S.events.length + 1 ∧ (takesF S rec).1.queue.length ≤ S.queue.length + 1 := by
  unfold takesF
  split
  · exact ⟨by simp, by simp⟩
  · split
    · exact ⟨by simp, by simp⟩
    · split
      · exact ⟨by simp, by simp⟩
      · split
        · exact ⟨by simp, by simp⟩
        · split
          · exact ⟨by simp, by simp⟩
          · split
            · split
              · exact ⟨by simp, by simp⟩
              · refine ⟨by simp, ?_⟩
                show S.queue.tail.length ≤ _
                rw [List.length_tail]
                omega
            · exact ⟨by simp, by simp⟩

theorem takesL_len : ∀ {S S' : SSt} {rs : List ByteArray}, takesL S rs = some S' → S'.events.length ≤ S.events.length + rs.length ∧ S'.queue.length ≤ S.queue.length + rs.length
  | S, S', [], h => by
    simp only [takesL, Option.some.injEq] at h
    subst h
    exact ⟨by simp, by simp⟩
  | S, S', r :: rs, h => by
    rw [takesL] at h
    split at h
    · have h1 := takesL_len h
      have h2 := takesF_len S r
      simp only [List.length_cons]
      omega
    · cases h

/-- log.Open's answer, its three results as letters. -/
theorem logOpen_any2 {w : World} {p r m : Nat} {D : DSt} (nm : ByteArray) (hd : DRep w p r D) (hD : DOk m D) (hn : 1 ≤ nm.size ∧ nm.size ≤ 28)
    (hcap : ∀ (n : Nat) (D' : DSt) (L' : LSt) (all : List ByteArray) (t : Bool), Opening D nm n D' L' all t → n < 100 ∧ all.length ≤ 400000) :
    Calls Tryd.prog 10 #[.pointer (some ⟨p, 0, none⟩), .string nm] w fun e w' => ∃ (a : Option Addr) (v : Value) (c : Int), e = .returned (.tuple #[.pointer a, v, .int .i64 c]) ∧
      ∃ (x : Int) (D' : DSt) (L' : LSt) (all : List ByteArray), OpenEnd D nm x D' L' all ∧ DRep w' p r D' ∧ BFr w.heap.size p r w w' ∧
        ((x = 10 ∧ c = 0 ∧ ∃ q, a = some ⟨q, 0, none⟩ ∧ w.heap.size ≤ q ∧ LogRep w' q p { L' with count := all.length } ∧ w'.ownsRow w.heap.size 9 1 v all.length (all.map Value.string)) ∨
         (x ≠ 10 ∧ a = none ∧ v = .slice none 0 0 ∧ c = x)) := by
  refine (logOpen_any nm hd hD hn hcap).mono ?_
  rintro e w' ⟨x, D', L', all, h1, h2, h3, ⟨rfl, q, v, h4, rfl, h5, h6⟩ | ⟨h4, rfl⟩⟩
  · exact ⟨_, _, _, rfl, 10, D', L', all, h1, h2, h3, .inl ⟨rfl, rfl, q, rfl, h4, h5, h6⟩⟩
  · exact ⟨_, _, _, rfl, x, D', L', all, h1, h2, h3, .inr ⟨h4, rfl, rfl, rfl⟩⟩

theorem OpenEnd.ne0 {D0 D : DSt} {nm : ByteArray} {x : Int} {L : LSt} {all : List ByteArray} (h : OpenEnd D0 nm x D L all) : x ≠ 0 := by
  cases h <;> assumption

theorem OpenEnd.len {D0 D : DSt} {nm : ByteArray} {x : Int} {L : LSt} {all : List ByteArray} {m : Nat} (hD : DOk m D0) (h : OpenEnd D0 nm x D L all)
    (hcap : ∀ (n : Nat) (D' : DSt) (L' : LSt) (all : List ByteArray) (t : Bool), Opening D0 nm n D' L' all t → n < 100 ∧ all.length ≤ 400000) : all.length ≤ 1000000 := by
  cases h with
  | none h1 _ => have := (hcap _ _ _ _ _ h1).2; omega
  | tear h1 _ => have := (hcap _ _ _ _ _ h1).2; omega
  | torn h1 h2 h3 _ _ _ =>
    have := (hcap _ _ _ _ _ h1).2
    obtain ⟨k, hk⟩ := (h1.ok hD).2
    have h4 := readS_size hk h2
    have h5 := h3.le
    rw [List.length_append]
    omega

def room : ByteArray := ⟨#[114, 111, 111, 109]⟩

/-- What store.Open answers, and leaves. -/
def StorePost (B p r : Nat) (w : World) (D : DSt) (e : Ending) (w' : World) : Prop := ∃ (x : Int) (D' : DSt) (L' : LSt) (all : List ByteArray), OpenEnd D room x D' L' all ∧ DRep w' p r D' ∧ BFr B p r w w' ∧
  ((x = 10 ∧ ∃ S, takesL s0 all = some S ∧ ∃ C g q, B ≤ q ∧ q < C ∧ e = .returned (.tuple #[.pointer (some ⟨g, 0, none⟩), .int .i64 0]) ∧ StRep w' C g q S ∧ LogRep w' q p { L' with count := all.length }) ∨
   (x = 10 ∧ takesL s0 all = none ∧ e = .returned (.tuple #[.pointer none, .int .i64 2])) ∨
   (x ≠ 10 ∧ e = .returned (.tuple #[.pointer none, .int .i64 x])))

set_option maxHeartbeats 4000000 in
set_option maxRecDepth 100000 in
theorem storeOpen_any {w : World} {p r m : Nat} {D : DSt} (hd : DRep w p r D) (hD : DOk m D)
    (hcap : ∀ (n : Nat) (D' : DSt) (L' : LSt) (all : List ByteArray) (t : Bool), Opening D room n D' L' all t → n < 100 ∧ all.length ≤ 400000) :
    Calls Tryd.prog 12 #[.pointer (some ⟨p, 0, none⟩)] w fun e w' => StorePost w.heap.size p r w D e w' := by
  have HO := Lib.hid (logOpen_any2 room hd hD (by decide) hcap)
  have hpl := hd.lt
  have hrl := hd.2.lt
  clear hd
  go_enter Tryd.func12, Tryd.ntmps12
  go_upto_region 2 with (go_at_call 10; refine HO.out.mono ?_; rintro e w1 ⟨a, v, c, rfl, hx⟩; have HX := Lib.hid hx; clear hx)
  obtain ⟨x, D', L', all, hend, hd1, hb1, ⟨rfl, rfl, q, rfl, hq, hl1, hown⟩ | ⟨hx10, rfl, rfl, rfl⟩⟩ := HX.out
  · have HEND := Lib.hid hend
    have hlen := hend.len hD hcap
    have HD1 := Lib.hid hd1
    have HB1 := Lib.hid hb1
    have HL1 := Lib.hid hl1
    obtain ⟨A, c, rfl, hac, hread, _⟩ := own_read hown hlen
    have HOWN := Lib.hid hown
    have HRD := Lib.hid hread
    have hql := hl1.lt
    have hsz := hb1.size
    clear hend hd1 hb1 hl1 hown hread HX HO
    go_upto_region 5 with fail
    obtain ⟨C, hC⟩ : ∃ C, C = w1.heap.size := ⟨_, rfl⟩
    rw [← hC]
    have hpC : p < C := by rw [hC]; omega
    have hrC : r < C := by rw [hC]; omega
    have hqC : q < C := by rw [hC]; exact hql
    have hwC : w.heap.size ≤ C := by rw [hC]; exact hsz
    obtain ⟨w2, hw2⟩ : ∃ w2, w2 = w1.alloc (.cells #[.string ⟨#[]⟩, .slice none 0 0, .int .i64 0, .slice none 0 0, .pointer (some ⟨q, 0, none⟩)] 70) := ⟨_, rfl⟩
    have HS2 := Lib.hid (show StRep w2 C C q s0 from ⟨_, _, ⟨by rw [hw2, hC]; exact heap_alloc_new _ _, QOwn.nil _ _ _, QOwn.nil _ _ _, (fun k hk => by cases hk), Nat.le_refl _⟩⟩)
    have HB2 := Lib.hid (show Below C w1 w2 by rw [hw2]; exact (Below.refl C w1).alloc (Nat.le_of_eq hC) _)
    have HC := Lib.hid hC
    rw [← hw2]
    clear hw2 hC
    go_wp2_with fail
    go_loopw [24, 9] (fun iv _ wr => ∃ (i : Nat) (S : SSt), iv = .int .i64 i ∧ i ≤ all.length ∧ takesL s0 (all.take i) = some S ∧ StRep wr C C q S ∧ Below C w1 wr) (fun iv _ _ => all.length - (intOf iv).toNat)
    case atStart => exact ⟨0, s0, rfl, Nat.zero_le _, rfl, HS2.out, HB2.out⟩
    case round =>
      obtain ⟨i, S, rfl, hi, hS, hst, hbr⟩ := hrel
      have hslen := takesL_len hS
      rw [List.length_take] at hslen
      have HS := Lib.hid hS
      have HST := Lib.hid hst
      have HBR := Lib.hid hbr
      by_cases hlt : i < all.length
      · have hread := (own_read (own_below HOWN.out (by rw [← HC.out]; exact hbr)) hlen)
        obtain ⟨A', c', hv, _, hrd, _⟩ := hread
        simp only [Value.slice.injEq] at hv
        obtain ⟨rfl, _, rfl⟩ := hv
        obtain ⟨ad, rfl, hcell⟩ := at_str hrd hlt
        have HT := Lib.hid (takes_any (all[i]) hst (by simp only [s0, List.length_nil] at hslen; have := Nat.min_le_right i all.length; omega))
        have hnext : takesL s0 (all.take (i + 1)) = if (takesF S all[i]).2 = true then some (takesF S all[i]).1 else none := by
          rw [List.take_add_one, List.getElem?_eq_getElem hlt, Option.toList_some, takesL_append, hS]
          show takesL S [all[i]] = _
          rw [takesL, takesL]
        obtain ⟨⟨S2, t⟩, hF⟩ : ∃ X, X = takesF S all[i] := ⟨_, rfl⟩
        rw [← hF] at HT hnext
        obtain ⟨rec, hrec⟩ : ∃ rec, rec = all[i] := ⟨_, rfl⟩
        rw [← hrec] at HT hcell
        simp only at HT
        have HN := Lib.hid hnext
        clear hst hbr hS hrd hF hrec hnext
        cases t with
        | true =>
          go_wp2_with (go_at_call 31; refine HT.out.mono ?_; rintro e w3 ⟨rfl, hs3, hb3⟩; have HS3 := Lib.hid hs3; have HB3 := Lib.hid hb3; clear hs3 hb3)
          exact ⟨⟨i + 1, S2, by go_num, by omega, HN.out.trans (if_pos (by simp)), HS3.out, HBR.out.trans HB3.out⟩, by simp [intOf]; omega⟩
        | false =>
          go_wp2_with (go_at_call 31; refine HT.out.mono ?_; rintro e w3 ⟨rfl, hs3, hb3⟩; have HS3 := Lib.hid hs3; have HB3 := Lib.hid hb3; clear hs3 hb3)
          go_ret2
          have hb := HBR.out.trans HB3.out
          refine ⟨10, D', L', all, HEND.out, HD1.out.move (hb.block p hpC) (hb.block r hrC), HB1.out.trans (bfr_of (p := p) (r := r) (hb.mono hwC)) (fun _ _ h => h), .inr (.inl ⟨rfl, ?_, rfl⟩)⟩
          have h1 := HN.out.trans (if_neg (by simp))
          rw [← List.take_append_drop (i + 1) all, takesL_append, h1]
          rfl
      · have hie : i = all.length := by omega
        clear hst hbr hS
        go_wp2_with fail
        go_ret2
        have hb := HBR.out
        refine ⟨10, D', L', all, HEND.out, HD1.out.move (hb.block p hpC) (hb.block r hrC), HB1.out.trans (bfr_of (p := p) (r := r) (hb.mono hwC)) (fun _ _ h => h), .inl ⟨rfl, S, ?_, C, C, q, hq, hqC, rfl, HST.out, (hb.block q hqC).trans HL1.out⟩⟩
        have h1 := HS.out
        rwa [hie, List.take_length] at h1
  · have h0 := hend.ne0
    go_wp2_with fail
    go_ret2
    exact ⟨c, D', L', all, hend, hd1, hb1, .inr (.inr ⟨hx10, rfl⟩)⟩

end Go.Proofs.YtdogmcpmlglkfaaDoor

namespace Go.Proofs.YtdogmcpmlglkfaaDoor
open Go.RowKit Go.Proofs.YtdogmcpmlglkfaaDoorW.PrintWords

set_option maxRecDepth 100000 in
theorem logOpen_nil (nm : ByteArray) (w : World) : Calls Tryd.prog 10 #[.pointer none, .string nm] w fun e w' => e = .returned (.tuple #[.pointer none, .slice none 0 0, .int .i64 1]) ∧ w' = w := by
  go_enter Tryd.func10, Tryd.ntmps10
  go_wp2_with fail
  go_ret3
  exact ⟨rfl, rfl⟩

set_option maxRecDepth 100000 in
theorem storeOpen_nil (w : World) : Calls Tryd.prog 12 #[.pointer none] w fun e w' => e = .returned (.tuple #[.pointer none, .int .i64 1]) ∧ w' = w := by
  go_enter Tryd.func12, Tryd.ntmps12
  go_wp2_with (go_at_call 10; refine (logOpen_nil room w).mono ?_; rintro e w1 ⟨rfl, rfl⟩)
  go_ret2
  exact ⟨rfl, rfl⟩

set_option maxRecDepth 100000 in
theorem lay_nil (rec : ByteArray) (f : Value) (w : World) : Calls Tryd.prog 40 #[.pointer none, .string rec, f] w fun e w' => e = .returned (.int .i64 1) ∧ w' = w := by
  go_enter Tryd.func40, Tryd.ntmps40
  go_wp2_with fail
  go_ret
  exact ⟨rfl, rfl⟩

set_option maxRecDepth 100000 in
theorem done_nil (w : World) : Calls Tryd.prog 23 #[.pointer none] w fun e w' => e = .returned (.int .i64 1) ∧ Below w.heap.size w w' := by
  have HL := Lib.hid lay_nil
  go_enter Tryd.func23, Tryd.ntmps23
  go_wp2_with (go_at_call 40; refine (HL.out _ _ _).mono ?_; rintro e w1 ⟨rfl, rfl⟩)
  go_ret
  exact ⟨rfl, Below.refl _ _⟩

set_option maxRecDepth 100000 in
theorem enter_nil (s : ByteArray) (hs : s.size ≤ 1000000) (w : World) : Calls Tryd.prog 36 #[.pointer none, .string s] w fun e w' => e = .returned (.int .i64 1) ∧ Below w.heap.size w w' := by
  have HL := Lib.hid lay_nil
  have h1 : ¬ 9223372036854775807 < 1 + s.size := by omega
  go_enter Tryd.func36, Tryd.ntmps36
  go_wp2_with (go_at_call 40; refine (HL.out _ _ _).mono ?_; rintro e w1 ⟨rfl, rfl⟩)
  go_ret
  exact ⟨rfl, (Below.refl _ _).alloc (Nat.le_refl _) _⟩

set_option maxRecDepth 100000 in
theorem event_nil (s : ByteArray) (hs : s.size ≤ 1000000) (w : World) : Calls Tryd.prog 37 #[.pointer none, .string s] w fun e w' => e = .returned (.int .i64 1) ∧ Below w.heap.size w w' := by
  have HL := Lib.hid lay_nil
  have h1 : ¬ 9223372036854775807 < 1 + s.size := by omega
  go_enter Tryd.func37, Tryd.ntmps37
  go_wp2_with (go_at_call 40; refine (HL.out _ _ _).mono ?_; rintro e w1 ⟨rfl, rfl⟩)
  go_ret
  exact ⟨rfl, (Below.refl _ _).alloc (Nat.le_refl _) _⟩

set_option maxRecDepth 100000 in
theorem queue_nil (s : ByteArray) (hs : s.size ≤ 1000000) (w : World) : Calls Tryd.prog 22 #[.pointer none, .string s] w fun e w' => e = .returned (.int .i64 1) ∧ Below w.heap.size w w' := by
  have HL := Lib.hid lay_nil
  have h1 : ¬ 9223372036854775807 < 1 + s.size := by omega
  go_enter Tryd.func22, Tryd.ntmps22
  go_wp2_with (go_at_call 40; refine (HL.out _ _ _).mono ?_; rintro e w1 ⟨rfl, rfl⟩)
  go_ret
  exact ⟨rfl, (Below.refl _ _).alloc (Nat.le_refl _) _⟩

theorem short_size (n : Int) : (short n).1.size ≤ 2 := by
  unfold short
  split
  · exact Nat.zero_le _
  · exact Nat.le_of_eq rfl

set_option maxRecDepth 100000 in
theorem spend_nil (n : Int) (w : World) : Calls Tryd.prog 38 #[.pointer none, .int .i64 n] w fun e w' => e = .returned (.int .i64 1) ∧ Below w.heap.size w w' := by
  have HL := Lib.hid lay_nil
  have HS := Lib.hid (fun W => shortn_any n W)
  have hsz := short_size n
  obtain ⟨⟨s, ok⟩, hs⟩ : ∃ X, X = short n := ⟨_, rfl⟩
  rw [← hs] at HS hsz
  simp only at HS hsz
  have h1 : ¬ 9223372036854775807 < 1 + s.size := by omega
  clear hs
  go_enter Tryd.func38, Tryd.ntmps38
  go_wp2_with (first
    | (go_at_call 57; refine (HS.out _).mono ?_; rintro e w1 ⟨rfl, hb1⟩; have HB1 := Lib.hid hb1; clear hb1)
    | (go_at_call 40; refine (HL.out _ _ _).mono ?_; rintro e w2 ⟨rfl, rfl⟩))
  go_ret
  have hb := ((Below.refl w.heap.size w).alloc (Nat.le_refl _) _).trans (HB1.out.mono (by rw [asz]; omega))
  exact ⟨rfl, hb.alloc hb.size _⟩

theorem ret_state {fn : Func} {p : Tmp} (h : fn.results = #[.cell p 40]) {a : Act} {w : World} {R : Ending → World → Prop} (g : Nat) (x y z u : Value) (hp : a.tmps.getD p undef = .pointer (some ⟨g, 0, none⟩))
    (hg : w.heap[g]? = some (.cells #[x, y, z, u] 40)) (hd : a.defers = []) (hR : R (.returned (.agg #[x, y, z, u])) w) : bodyPost Tryd.prog fn R .ret a w := by
  refine bodyPost_ret (v := .agg #[x, y, z, u]) ?_ hd hR
  exact results_cell_row h _ _ g _ _ _ _ hp hg Tryd.underlying40 rfl (by kernel_rfl)

set_option maxRecDepth 100000 in
theorem state_nil (w : World) : Calls Tryd.prog 16 #[.pointer none] w fun e w' => e = .returned (.agg #[.string ⟨#[]⟩, .slice none 0 0, .int .i64 0, .slice none 0 0]) ∧ Below w.heap.size w w' := by
  go_enter Tryd.func16, Tryd.ntmps16
  go_wp2_with fail
  (try simp only [Exit.inBlock, Exit.then])
  exact ret_state rfl w.heap.size _ _ _ _ rfl (heap_alloc_new _ _) rfl ⟨rfl, (Below.refl _ _).alloc (Nat.le_refl _) _⟩

end Go.Proofs.YtdogmcpmlglkfaaDoor

namespace Go.Proofs.YtdogmcpmlglkfaaDoor
open Go.RowKit Go.Proofs.YtdogmcpmlglkfaaDoorW.PrintWords

theorem unless_any (b : Bool) (x : Int) (w : World) : Calls Tryd.prog 42 #[.bool b, .int .i64 x] w fun e w' => e = .returned (.int .i64 (if b = true then x else 0)) ∧ w' = w := by
  go_enter Tryd.func42, Tryd.ntmps42
  cases b with
  | true =>
    go_wp2_with fail
    go_ret
    exact ⟨rfl, rfl⟩
  | false =>
    go_wp2_with fail
    go_ret
    exact ⟨rfl, rfl⟩

/-- What a closure refuses a record with. -/
def agg4 (S : SSt) (ev qu : Value) : Value := .agg #[.string S.room, ev, .int .i64 S.used, qu]

set_option maxRecDepth 100000 in
theorem doneC_any {w : World} {S : SSt} {ev : Value} {A : Option Addr} {c : Nat} :
    Calls Tryd.prog 43 #[agg4 S ev (.slice A S.queue.length c)] w fun e w' => e = .returned (.int .i64 (if S.queue.length = 0 then 10 else 0)) ∧ Below w.heap.size w w' := by
  have HU := Lib.hid unless_any
  unfold agg4
  obtain ⟨n, hn⟩ : ∃ n, n = S.queue.length := ⟨_, rfl⟩
  rw [← hn]
  have hb : ((n : Int) == 0) = decide (n = 0) := by rw [Bool.eq_iff_iff]; simp
  have e1 : (if decide (n = 0) = true then (10 : Int) else 0) = if n = 0 then 10 else 0 := by simp
  have HE := Lib.hid e1
  clear hn e1
  go_enter Tryd.func43, Tryd.ntmps43
  go_wp2_with (go_at_call 42; refine (HU.out _ _ _).mono ?_; rintro e w1 ⟨rfl, rfl⟩)
  all_goals
    go_ret
    exact ⟨rfl, (Below.refl _ _).alloc (Nat.le_refl _) _⟩

/-- What lay answers, and leaves: 'no' is what the closure says. -/
def layF (no : Int) (S : SSt) (L : LSt) (D : DSt) (rec : ByteArray) : Int × SSt × LSt × DSt :=
  if no = 0 then (if (logApp L D rec).1 = 0 then (0, (takesF S rec).1, (logApp L D rec).2.1, (logApp L D rec).2.2) else ((logApp L D rec).1, S, (logApp L D rec).2.1, (logApp L D rec).2.2))
  else (no, S, L, D)

theorem layF_no {no : Int} (S : SSt) (L : LSt) (D : DSt) (rec : ByteArray) (h : no ≠ 0) : layF no S L D rec = (no, S, L, D) := by rw [layF, if_neg h]
theorem layF_ok (S : SSt) {L L' : LSt} {D D' : DSt} {rec : ByteArray} (h : logApp L D rec = (0, L', D')) : layF 0 S L D rec = (0, (takesF S rec).1, L', D') := by rw [layF, if_pos rfl, h, if_pos rfl]
theorem layF_bad (S : SSt) {L L' : LSt} {D D' : DSt} {rec : ByteArray} {x : Int} (h : logApp L D rec = (x, L', D')) (hx : x ≠ 0) : layF 0 S L D rec = (x, S, L', D') := by rw [layF, if_pos rfl, h, if_neg hx]

abbrev SFr (F : Nat → Prop) (p r q : Nat) (w w' : World) : Prop := Fr (fun b => b = p ∨ b = r ∨ b = q ∨ F b) w w'

/-- F holds of the store's own blocks. -/
structure Foot (w : World) (C g : Nat) (ev qu : Value) (F : Nat → Prop) : Prop where
  g : F g
  ev : ∀ b, ev.ownBlock = some b → F b
  qu : ∀ b, qu.ownBlock = some b → F b
  rng : ∀ b, F b → C ≤ b ∧ b < w.heap.size

theorem Foot.size {w w' : World} {C g : Nat} {ev qu : Value} {F : Nat → Prop} (h : Foot w C g ev qu F) (hs : w.heap.size ≤ w'.heap.size) : Foot w' C g ev qu F :=
  ⟨h.g, h.ev, h.qu, fun b hb => ⟨(h.rng b hb).1, Nat.lt_of_lt_of_le (h.rng b hb).2 hs⟩⟩

theorem StAt.foot {w : World} {C g q : Nat} {S : SSt} {ev qu : Value} (h : StAt w C g q S ev qu) : Foot w C g ev qu (Touch g ev qu) :=
  ⟨.inl rfl, fun _ e => .inr (.inl e), fun _ e => .inr (.inr e), fun b hb => by
    rcases hb with rfl | e | e
    · exact ⟨h.base, h.lt⟩
    · exact h.evs.lt e
    · exact h.qus.lt e⟩

theorem Foot.touch {w : World} {C g : Nat} {ev qu : Value} {F : Nat → Prop} (h : Foot w C g ev qu F) {b : Nat} (hb : Touch g ev qu b) : F b := by
  rcases hb with rfl | e | e
  · exact h.g
  · exact h.ev b e
  · exact h.qu b e

/-- A store, its own blocks among F. -/
def StRepF (w : World) (C g q : Nat) (S : SSt) (F : Nat → Prop) : Prop := ∃ ev qu, StAt w C g q S ev qu ∧ Foot w C g ev qu F

theorem StRepF.rep {w : World} {C g q : Nat} {S : SSt} {F : Nat → Prop} (h : StRepF w C g q S F) : StRep w C g q S := by
  obtain ⟨ev, qu, h, _⟩ := h
  exact ⟨ev, qu, h⟩

theorem StRep.repF {w : World} {C g q : Nat} {S : SSt} (h : StRep w C g q S) : ∃ F, StRepF w C g q S F := by
  obtain ⟨ev, qu, h⟩ := h
  exact ⟨_, ev, qu, h, h.foot⟩

theorem StRepF.rng {w : World} {C g q : Nat} {S : SSt} {F : Nat → Prop} (h : StRepF w C g q S F) : ∀ b, F b → C ≤ b ∧ b < w.heap.size := by
  obtain ⟨ev, qu, _, hF⟩ := h
  exact hF.rng

def LayPost (C g q p r : Nat) (F : Nat → Prop) (no : Int) (S : SSt) (L : LSt) (D : DSt) (rec : ByteArray) (w : World) (e : Ending) (w' : World) : Prop :=
  e = .returned (.int .i64 (layF no S L D rec).1) ∧ (∃ F', StRepF w' C g q (layF no S L D rec).2.1 F' ∧ ∀ b, b < w.heap.size → F' b → F b) ∧ LogRep w' q p (layF no S L D rec).2.2.1 ∧ DRep w' p r (layF no S L D rec).2.2.2 ∧ SFr F p r q w w'

theorem StAt.move {w w' : World} {C g q : Nat} {S : SSt} {ev qu : Value} (h : StAt w C g q S ev qu) (hb : ∀ k, C ≤ k → k < w.heap.size → w'.heap[k]? = w.heap[k]?) : StAt w' C g q S ev qu :=
  ⟨(hb g h.base h.lt).trans h.blk, h.evs.move fun k hk => hb k (h.evs.lt hk).1 (h.evs.lt hk).2, h.qus.move fun k hk => hb k (h.qus.lt hk).1 (h.qus.lt hk).2, h.apart, h.base⟩

theorem lay_keep {w w1 w2 : World} {C g q p r : Nat} {S : SSt} {ev qu : Value} (hp : p < C) (hr : r < C) (hq : q < C) (hb : Below w.heap.size w w1) (hf : LFr p r q w1 w2) (h : StAt w C g q S ev qu) : StAt w2 C g q S ev qu :=
  (h.below hb).move fun k h1 h2 => hf.block k h2 (by rintro (e | e | e) <;> omega)

theorem lay_fr {w w1 w2 : World} {F : Nat → Prop} {q p r : Nat} (hb : Below w.heap.size w w1) (hf : LFr p r q w1 w2) : SFr F p r q w w2 :=
  (Fr.of_below (S := fun _ => False) hb |>.mono (fun _ _ h => h.elim)).trans (hf.mono (fun i _ h => by rcases h with h | h | h; exact .inl h; exact .inr (.inl h); exact .inr (.inr (.inl h)))) (fun _ _ h => h)

/-- What lay leaves of a store whose record was taken in. -/
theorem lay_fin {w w2 w3 : World} {C g q p r : Nat} {F : Nat → Prop} {S' : SSt} {L' : LSt} {D' : DSt} {ev qu ev' qu' : Value} (hF : Foot w C g ev qu F) (hx : SFr F p r q w w2) (h2 : StAt w3 C g q S' ev' qu') (h3 : Fr (Touch g ev qu) w2 w3) (n1 : Newer w2 ev ev') (n2 : Newer w2 qu qu')
    (hl : LogRep w2 q p L') (hd : DRep w2 p r D') (hp : p < C) (hr : r < C) (hq : q < C) : (∃ F', StRepF w3 C g q S' F' ∧ ∀ b, b < w.heap.size → F' b → F b) ∧ LogRep w3 q p L' ∧ DRep w3 p r D' ∧ SFr F p r q w w3 := by
  have hn : ∀ k, k < C → ¬ Touch g ev qu k := fun k hk ht => by have := (hF.rng k (hF.touch ht)).1; omega
  have hs := hx.size
  refine ⟨⟨_, ⟨ev', qu', h2, h2.foot⟩, fun b hb ht => ?_⟩, (h3.block q hl.lt (hn q hq)).trans hl, hd.move (h3.block p hd.lt (hn p hp)) (h3.block r hd.2.lt (hn r hr)), hx.trans h3 (fun i _ h => .inr (.inr (.inr (hF.touch h))))⟩
  rcases ht with rfl | e | e
  · exact hF.g
  · rcases n1 b e with h | h
    · exact hF.ev b h
    · omega
  · rcases n2 b e with h | h
    · exact hF.qu b h
    · omega

end Go.Proofs.YtdogmcpmlglkfaaDoor

namespace Go.Proofs.YtdogmcpmlglkfaaDoor
open Go.RowKit Go.Proofs.YtdogmcpmlglkfaaDoorW.PrintWords

set_option maxHeartbeats 4000000 in
set_option maxRecDepth 100000 in
theorem lay_enter {w : World} {C g q p r n : Nat} {F : Nat → Prop} {S : SSt} {L : LSt} {D : DSt} (rec : ByteArray) (a : Addr) (no : Int) (h : StRepF w C g q S F) (hl : LogRep w q p L) (hd : DRep w p r D) (hL : LOk L) (hD : DOk n D) (hq : q < C) (hp : p < C) (hr : r < C)
    (hsz : S.events.length ≤ 1000000 ∧ S.queue.length ≤ 1000000)
    (hno : ∀ ev A c, Calls Tryd.prog 55 #[agg4 S ev (.slice A S.queue.length c), .pointer (some a)] w fun e w' => e = .returned (.int .i64 no) ∧ Below w.heap.size w w') :
    Calls Tryd.prog 40 #[.pointer (some ⟨g, 0, none⟩), .string rec, .func (.func 55) #[] #[.pointer (some a)]] w fun e w' => LayPost C g q p r F no S L D rec w e w' := by
  obtain ⟨ev, qu, hst, hfo⟩ := h
  have HFO := Lib.hid hfo
  obtain ⟨A, c, rfl, hac⟩ := hst.qus.slice
  have HN := Lib.hid (hno ev A c)
  unfold agg4 at HN
  obtain ⟨c0, c1, c2, c3, c4, cf⟩ := box5 hst.blk
  have HST := Lib.hid hst
  have HL := Lib.hid hl
  have HD := Lib.hid hd
  have hgl := hst.lt
  have hCg := hst.base
  clear hst hl hd cf hno hfo
  by_cases h0 : no = 0
  · subst h0
    obtain ⟨R, hR⟩ : ∃ R, R = logApp L D rec := ⟨_, rfl⟩
    have HA := Lib.hid (fun (W : World) (h1 : LogRep W q p L) (h2 : DRep W p r D) => logApp_any rec h1 h2 hL hD)
    rw [← hR] at HA
    obtain ⟨x, L', D'⟩ := R
    have HR := Lib.hid hR
    simp only at HA
    clear hR
    go_enter Tryd.func40, Tryd.ntmps40
    go_upto_region 7 with (first
      | (go_at_call 55; refine HN.out.mono ?_; rintro e w1 ⟨rfl, hb1⟩; have c41 := (hb1.cell (World.block_lt_of_cell? _ _ c4)).trans c4; have HB1 := Lib.hid hb1; clear hb1)
      | (go_at_call 11; refine (HA.out _ (HL.out.below HB1.out) (HD.out.below HB1.out)).mono ?_; rintro e w2 ⟨rfl, hl2, hd2, hf2⟩; have HL2 := Lib.hid hl2; have HD2 := Lib.hid hd2; have HF2 := Lib.hid hf2; clear hl2 hd2 hf2))
    have HS2 := Lib.hid (lay_keep hp hr hq HB1.out HF2.out HST.out)
    have HX2 := Lib.hid (lay_fr (F := F) HB1.out HF2.out)
    by_cases hx : x = 0
    · subst hx
      have HT := Lib.hid (takes_ft rec HS2.out hsz)
      go_wp2_with (go_at_call 31; refine HT.out.mono ?_; rintro e w3 ⟨rfl, ev3, qu3, hs3, hf3, hn3, hm3⟩)
      go_ret
      have e1 := layF_ok S HR.out.symm
      have hfin := lay_fin HFO.out HX2.out hs3 hf3 hn3 hm3 HL2.out HD2.out hp hr hq
      exact ⟨by rw [e1]; rfl, by rw [e1]; exact hfin.1, by rw [e1]; exact hfin.2.1, by rw [e1]; exact hfin.2.2.1, hfin.2.2.2⟩
    · go_wp2_with fail
      go_ret
      have e1 := layF_bad S HR.out.symm hx
      exact ⟨by rw [e1]; rfl, by rw [e1]; exact ⟨F, ⟨_, _, HS2.out, HFO.out.size HX2.out.size⟩, fun _ _ h => h⟩, by rw [e1]; exact HL2.out, by rw [e1]; exact HD2.out, HX2.out⟩
  · go_enter Tryd.func40, Tryd.ntmps40
    go_wp2_with (go_at_call 55; refine HN.out.mono ?_; rintro e w1 ⟨rfl, hb1⟩; have HB1 := Lib.hid hb1; clear hb1)
    go_ret
    have e1 := layF_no S L D rec h0
    exact ⟨by rw [e1]; rfl, by rw [e1]; exact ⟨F, ⟨_, _, HST.out.below HB1.out, HFO.out.size HB1.out.size⟩, fun _ _ h => h⟩, by rw [e1]; exact HL.out.below HB1.out, by rw [e1]; exact HD.out.below HB1.out, Fr.of_below HB1.out⟩

set_option maxHeartbeats 4000000 in
set_option maxRecDepth 100000 in
theorem lay_event {w : World} {C g q p r n : Nat} {F : Nat → Prop} {S : SSt} {L : LSt} {D : DSt} (rec : ByteArray) (a : Addr) (no : Int) (h : StRepF w C g q S F) (hl : LogRep w q p L) (hd : DRep w p r D) (hL : LOk L) (hD : DOk n D) (hq : q < C) (hp : p < C) (hr : r < C)
    (hsz : S.events.length ≤ 1000000 ∧ S.queue.length ≤ 1000000)
    (hno : ∀ ev A c, Calls Tryd.prog 56 #[agg4 S ev (.slice A S.queue.length c), .pointer (some a)] w fun e w' => e = .returned (.int .i64 no) ∧ Below w.heap.size w w') :
    Calls Tryd.prog 40 #[.pointer (some ⟨g, 0, none⟩), .string rec, .func (.func 56) #[] #[.pointer (some a)]] w fun e w' => LayPost C g q p r F no S L D rec w e w' := by
  obtain ⟨ev, qu, hst, hfo⟩ := h
  have HFO := Lib.hid hfo
  obtain ⟨A, c, rfl, hac⟩ := hst.qus.slice
  have HN := Lib.hid (hno ev A c)
  unfold agg4 at HN
  obtain ⟨c0, c1, c2, c3, c4, cf⟩ := box5 hst.blk
  have HST := Lib.hid hst
  have HL := Lib.hid hl
  have HD := Lib.hid hd
  have hgl := hst.lt
  have hCg := hst.base
  clear hst hl hd cf hno hfo
  by_cases h0 : no = 0
  · subst h0
    obtain ⟨R, hR⟩ : ∃ R, R = logApp L D rec := ⟨_, rfl⟩
    have HA := Lib.hid (fun (W : World) (h1 : LogRep W q p L) (h2 : DRep W p r D) => logApp_any rec h1 h2 hL hD)
    rw [← hR] at HA
    obtain ⟨x, L', D'⟩ := R
    have HR := Lib.hid hR
    simp only at HA
    clear hR
    go_enter Tryd.func40, Tryd.ntmps40
    go_upto_region 7 with (first
      | (go_at_call 56; refine HN.out.mono ?_; rintro e w1 ⟨rfl, hb1⟩; have c41 := (hb1.cell (World.block_lt_of_cell? _ _ c4)).trans c4; have HB1 := Lib.hid hb1; clear hb1)
      | (go_at_call 11; refine (HA.out _ (HL.out.below HB1.out) (HD.out.below HB1.out)).mono ?_; rintro e w2 ⟨rfl, hl2, hd2, hf2⟩; have HL2 := Lib.hid hl2; have HD2 := Lib.hid hd2; have HF2 := Lib.hid hf2; clear hl2 hd2 hf2))
    have HS2 := Lib.hid (lay_keep hp hr hq HB1.out HF2.out HST.out)
    have HX2 := Lib.hid (lay_fr (F := F) HB1.out HF2.out)
    by_cases hx : x = 0
    · subst hx
      have HT := Lib.hid (takes_ft rec HS2.out hsz)
      go_wp2_with (go_at_call 31; refine HT.out.mono ?_; rintro e w3 ⟨rfl, ev3, qu3, hs3, hf3, hn3, hm3⟩)
      go_ret
      have e1 := layF_ok S HR.out.symm
      have hfin := lay_fin HFO.out HX2.out hs3 hf3 hn3 hm3 HL2.out HD2.out hp hr hq
      exact ⟨by rw [e1]; rfl, by rw [e1]; exact hfin.1, by rw [e1]; exact hfin.2.1, by rw [e1]; exact hfin.2.2.1, hfin.2.2.2⟩
    · go_wp2_with fail
      go_ret
      have e1 := layF_bad S HR.out.symm hx
      exact ⟨by rw [e1]; rfl, by rw [e1]; exact ⟨F, ⟨_, _, HS2.out, HFO.out.size HX2.out.size⟩, fun _ _ h => h⟩, by rw [e1]; exact HL2.out, by rw [e1]; exact HD2.out, HX2.out⟩
  · go_enter Tryd.func40, Tryd.ntmps40
    go_wp2_with (go_at_call 56; refine HN.out.mono ?_; rintro e w1 ⟨rfl, hb1⟩; have HB1 := Lib.hid hb1; clear hb1)
    go_ret
    have e1 := layF_no S L D rec h0
    exact ⟨by rw [e1]; rfl, by rw [e1]; exact ⟨F, ⟨_, _, HST.out.below HB1.out, HFO.out.size HB1.out.size⟩, fun _ _ h => h⟩, by rw [e1]; exact HL.out.below HB1.out, by rw [e1]; exact HD.out.below HB1.out, Fr.of_below HB1.out⟩

set_option maxHeartbeats 4000000 in
set_option maxRecDepth 100000 in
theorem lay_spend {w : World} {C g q p r n : Nat} {F : Nat → Prop} {S : SSt} {L : LSt} {D : DSt} (rec : ByteArray) (a : Addr) (b : Addr) (no : Int) (h : StRepF w C g q S F) (hl : LogRep w q p L) (hd : DRep w p r D) (hL : LOk L) (hD : DOk n D) (hq : q < C) (hp : p < C) (hr : r < C)
    (hsz : S.events.length ≤ 1000000 ∧ S.queue.length ≤ 1000000)
    (hno : ∀ ev A c, Calls Tryd.prog 58 #[agg4 S ev (.slice A S.queue.length c), .pointer (some a), .pointer (some b)] w fun e w' => e = .returned (.int .i64 no) ∧ Below w.heap.size w w') :
    Calls Tryd.prog 40 #[.pointer (some ⟨g, 0, none⟩), .string rec, .func (.func 58) #[] #[.pointer (some a), .pointer (some b)]] w fun e w' => LayPost C g q p r F no S L D rec w e w' := by
  obtain ⟨ev, qu, hst, hfo⟩ := h
  have HFO := Lib.hid hfo
  obtain ⟨A, c, rfl, hac⟩ := hst.qus.slice
  have HN := Lib.hid (hno ev A c)
  unfold agg4 at HN
  obtain ⟨c0, c1, c2, c3, c4, cf⟩ := box5 hst.blk
  have HST := Lib.hid hst
  have HL := Lib.hid hl
  have HD := Lib.hid hd
  have hgl := hst.lt
  have hCg := hst.base
  clear hst hl hd cf hno hfo
  by_cases h0 : no = 0
  · subst h0
    obtain ⟨R, hR⟩ : ∃ R, R = logApp L D rec := ⟨_, rfl⟩
    have HA := Lib.hid (fun (W : World) (h1 : LogRep W q p L) (h2 : DRep W p r D) => logApp_any rec h1 h2 hL hD)
    rw [← hR] at HA
    obtain ⟨x, L', D'⟩ := R
    have HR := Lib.hid hR
    simp only at HA
    clear hR
    go_enter Tryd.func40, Tryd.ntmps40
    go_upto_region 7 with (first
      | (go_at_call 58; refine HN.out.mono ?_; rintro e w1 ⟨rfl, hb1⟩; have c41 := (hb1.cell (World.block_lt_of_cell? _ _ c4)).trans c4; have HB1 := Lib.hid hb1; clear hb1)
      | (go_at_call 11; refine (HA.out _ (HL.out.below HB1.out) (HD.out.below HB1.out)).mono ?_; rintro e w2 ⟨rfl, hl2, hd2, hf2⟩; have HL2 := Lib.hid hl2; have HD2 := Lib.hid hd2; have HF2 := Lib.hid hf2; clear hl2 hd2 hf2))
    have HS2 := Lib.hid (lay_keep hp hr hq HB1.out HF2.out HST.out)
    have HX2 := Lib.hid (lay_fr (F := F) HB1.out HF2.out)
    by_cases hx : x = 0
    · subst hx
      have HT := Lib.hid (takes_ft rec HS2.out hsz)
      go_wp2_with (go_at_call 31; refine HT.out.mono ?_; rintro e w3 ⟨rfl, ev3, qu3, hs3, hf3, hn3, hm3⟩)
      go_ret
      have e1 := layF_ok S HR.out.symm
      have hfin := lay_fin HFO.out HX2.out hs3 hf3 hn3 hm3 HL2.out HD2.out hp hr hq
      exact ⟨by rw [e1]; rfl, by rw [e1]; exact hfin.1, by rw [e1]; exact hfin.2.1, by rw [e1]; exact hfin.2.2.1, hfin.2.2.2⟩
    · go_wp2_with fail
      go_ret
      have e1 := layF_bad S HR.out.symm hx
      exact ⟨by rw [e1]; rfl, by rw [e1]; exact ⟨F, ⟨_, _, HS2.out, HFO.out.size HX2.out.size⟩, fun _ _ h => h⟩, by rw [e1]; exact HL2.out, by rw [e1]; exact HD2.out, HX2.out⟩
  · go_enter Tryd.func40, Tryd.ntmps40
    go_wp2_with (go_at_call 58; refine HN.out.mono ?_; rintro e w1 ⟨rfl, hb1⟩; have HB1 := Lib.hid hb1; clear hb1)
    go_ret
    have e1 := layF_no S L D rec h0
    exact ⟨by rw [e1]; rfl, by rw [e1]; exact ⟨F, ⟨_, _, HST.out.below HB1.out, HFO.out.size HB1.out.size⟩, fun _ _ h => h⟩, by rw [e1]; exact HL.out.below HB1.out, by rw [e1]; exact HD.out.below HB1.out, Fr.of_below HB1.out⟩

set_option maxHeartbeats 4000000 in
set_option maxRecDepth 100000 in
theorem lay_queue {w : World} {C g q p r n : Nat} {F : Nat → Prop} {S : SSt} {L : LSt} {D : DSt} (rec : ByteArray) (a : Addr) (no : Int) (h : StRepF w C g q S F) (hl : LogRep w q p L) (hd : DRep w p r D) (hL : LOk L) (hD : DOk n D) (hq : q < C) (hp : p < C) (hr : r < C)
    (hsz : S.events.length ≤ 1000000 ∧ S.queue.length ≤ 1000000)
    (hno : ∀ ev A c, Calls Tryd.prog 41 #[agg4 S ev (.slice A S.queue.length c), .pointer (some a)] w fun e w' => e = .returned (.int .i64 no) ∧ Below w.heap.size w w') :
    Calls Tryd.prog 40 #[.pointer (some ⟨g, 0, none⟩), .string rec, .func (.func 41) #[] #[.pointer (some a)]] w fun e w' => LayPost C g q p r F no S L D rec w e w' := by
  obtain ⟨ev, qu, hst, hfo⟩ := h
  have HFO := Lib.hid hfo
  obtain ⟨A, c, rfl, hac⟩ := hst.qus.slice
  have HN := Lib.hid (hno ev A c)
  unfold agg4 at HN
  obtain ⟨c0, c1, c2, c3, c4, cf⟩ := box5 hst.blk
  have HST := Lib.hid hst
  have HL := Lib.hid hl
  have HD := Lib.hid hd
  have hgl := hst.lt
  have hCg := hst.base
  clear hst hl hd cf hno hfo
  by_cases h0 : no = 0
  · subst h0
    obtain ⟨R, hR⟩ : ∃ R, R = logApp L D rec := ⟨_, rfl⟩
    have HA := Lib.hid (fun (W : World) (h1 : LogRep W q p L) (h2 : DRep W p r D) => logApp_any rec h1 h2 hL hD)
    rw [← hR] at HA
    obtain ⟨x, L', D'⟩ := R
    have HR := Lib.hid hR
    simp only at HA
    clear hR
    go_enter Tryd.func40, Tryd.ntmps40
    go_upto_region 7 with (first
      | (go_at_call 41; refine HN.out.mono ?_; rintro e w1 ⟨rfl, hb1⟩; have c41 := (hb1.cell (World.block_lt_of_cell? _ _ c4)).trans c4; have HB1 := Lib.hid hb1; clear hb1)
      | (go_at_call 11; refine (HA.out _ (HL.out.below HB1.out) (HD.out.below HB1.out)).mono ?_; rintro e w2 ⟨rfl, hl2, hd2, hf2⟩; have HL2 := Lib.hid hl2; have HD2 := Lib.hid hd2; have HF2 := Lib.hid hf2; clear hl2 hd2 hf2))
    have HS2 := Lib.hid (lay_keep hp hr hq HB1.out HF2.out HST.out)
    have HX2 := Lib.hid (lay_fr (F := F) HB1.out HF2.out)
    by_cases hx : x = 0
    · subst hx
      have HT := Lib.hid (takes_ft rec HS2.out hsz)
      go_wp2_with (go_at_call 31; refine HT.out.mono ?_; rintro e w3 ⟨rfl, ev3, qu3, hs3, hf3, hn3, hm3⟩)
      go_ret
      have e1 := layF_ok S HR.out.symm
      have hfin := lay_fin HFO.out HX2.out hs3 hf3 hn3 hm3 HL2.out HD2.out hp hr hq
      exact ⟨by rw [e1]; rfl, by rw [e1]; exact hfin.1, by rw [e1]; exact hfin.2.1, by rw [e1]; exact hfin.2.2.1, hfin.2.2.2⟩
    · go_wp2_with fail
      go_ret
      have e1 := layF_bad S HR.out.symm hx
      exact ⟨by rw [e1]; rfl, by rw [e1]; exact ⟨F, ⟨_, _, HS2.out, HFO.out.size HX2.out.size⟩, fun _ _ h => h⟩, by rw [e1]; exact HL2.out, by rw [e1]; exact HD2.out, HX2.out⟩
  · go_enter Tryd.func40, Tryd.ntmps40
    go_wp2_with (go_at_call 41; refine HN.out.mono ?_; rintro e w1 ⟨rfl, hb1⟩; have HB1 := Lib.hid hb1; clear hb1)
    go_ret
    have e1 := layF_no S L D rec h0
    exact ⟨by rw [e1]; rfl, by rw [e1]; exact ⟨F, ⟨_, _, HST.out.below HB1.out, HFO.out.size HB1.out.size⟩, fun _ _ h => h⟩, by rw [e1]; exact HL.out.below HB1.out, by rw [e1]; exact HD.out.below HB1.out, Fr.of_below HB1.out⟩

set_option maxHeartbeats 4000000 in
set_option maxRecDepth 100000 in
theorem lay_done {w : World} {C g q p r n : Nat} {F : Nat → Prop} {S : SSt} {L : LSt} {D : DSt} (rec : ByteArray) (no : Int) (h : StRepF w C g q S F) (hl : LogRep w q p L) (hd : DRep w p r D) (hL : LOk L) (hD : DOk n D) (hq : q < C) (hp : p < C) (hr : r < C)
    (hsz : S.events.length ≤ 1000000 ∧ S.queue.length ≤ 1000000)
    (hno : ∀ ev A c, Calls Tryd.prog 43 #[agg4 S ev (.slice A S.queue.length c)] w fun e w' => e = .returned (.int .i64 no) ∧ Below w.heap.size w w') :
    Calls Tryd.prog 40 #[.pointer (some ⟨g, 0, none⟩), .string rec, .func (.func 43) #[] #[]] w fun e w' => LayPost C g q p r F no S L D rec w e w' := by
  obtain ⟨ev, qu, hst, hfo⟩ := h
  have HFO := Lib.hid hfo
  obtain ⟨A, c, rfl, hac⟩ := hst.qus.slice
  have HN := Lib.hid (hno ev A c)
  unfold agg4 at HN
  obtain ⟨c0, c1, c2, c3, c4, cf⟩ := box5 hst.blk
  have HST := Lib.hid hst
  have HL := Lib.hid hl
  have HD := Lib.hid hd
  have hgl := hst.lt
  have hCg := hst.base
  clear hst hl hd cf hno hfo
  by_cases h0 : no = 0
  · subst h0
    obtain ⟨R, hR⟩ : ∃ R, R = logApp L D rec := ⟨_, rfl⟩
    have HA := Lib.hid (fun (W : World) (h1 : LogRep W q p L) (h2 : DRep W p r D) => logApp_any rec h1 h2 hL hD)
    rw [← hR] at HA
    obtain ⟨x, L', D'⟩ := R
    have HR := Lib.hid hR
    simp only at HA
    clear hR
    go_enter Tryd.func40, Tryd.ntmps40
    go_upto_region 7 with (first
      | (go_at_call 43; refine HN.out.mono ?_; rintro e w1 ⟨rfl, hb1⟩; have c41 := (hb1.cell (World.block_lt_of_cell? _ _ c4)).trans c4; have HB1 := Lib.hid hb1; clear hb1)
      | (go_at_call 11; refine (HA.out _ (HL.out.below HB1.out) (HD.out.below HB1.out)).mono ?_; rintro e w2 ⟨rfl, hl2, hd2, hf2⟩; have HL2 := Lib.hid hl2; have HD2 := Lib.hid hd2; have HF2 := Lib.hid hf2; clear hl2 hd2 hf2))
    have HS2 := Lib.hid (lay_keep hp hr hq HB1.out HF2.out HST.out)
    have HX2 := Lib.hid (lay_fr (F := F) HB1.out HF2.out)
    by_cases hx : x = 0
    · subst hx
      have HT := Lib.hid (takes_ft rec HS2.out hsz)
      go_wp2_with (go_at_call 31; refine HT.out.mono ?_; rintro e w3 ⟨rfl, ev3, qu3, hs3, hf3, hn3, hm3⟩)
      go_ret
      have e1 := layF_ok S HR.out.symm
      have hfin := lay_fin HFO.out HX2.out hs3 hf3 hn3 hm3 HL2.out HD2.out hp hr hq
      exact ⟨by rw [e1]; rfl, by rw [e1]; exact hfin.1, by rw [e1]; exact hfin.2.1, by rw [e1]; exact hfin.2.2.1, hfin.2.2.2⟩
    · go_wp2_with fail
      go_ret
      have e1 := layF_bad S HR.out.symm hx
      exact ⟨by rw [e1]; rfl, by rw [e1]; exact ⟨F, ⟨_, _, HS2.out, HFO.out.size HX2.out.size⟩, fun _ _ h => h⟩, by rw [e1]; exact HL2.out, by rw [e1]; exact HD2.out, HX2.out⟩
  · go_enter Tryd.func40, Tryd.ntmps40
    go_wp2_with (go_at_call 43; refine HN.out.mono ?_; rintro e w1 ⟨rfl, hb1⟩; have HB1 := Lib.hid hb1; clear hb1)
    go_ret
    have e1 := layF_no S L D rec h0
    exact ⟨by rw [e1]; rfl, by rw [e1]; exact ⟨F, ⟨_, _, HST.out.below HB1.out, HFO.out.size HB1.out.size⟩, fun _ _ h => h⟩, by rw [e1]; exact HL.out.below HB1.out, by rw [e1]; exact HD.out.below HB1.out, Fr.of_below HB1.out⟩

end Go.Proofs.YtdogmcpmlglkfaaDoor

namespace Go.Proofs.YtdogmcpmlglkfaaDoor
open Go.RowKit Go.Proofs.YtdogmcpmlglkfaaDoorW.PrintWords

def noEnter (S : SSt) (t : ByteArray) : Int := if t.size = 32 then (if S.room.size = 0 then 0 else 11) else 1
def noEvent (t : ByteArray) : Int := if 65535 ≤ t.size then 3 else 0
def noSpend (S : SSt) (n : Int) (ok : Bool) : Int := if ok = true ∧ S.used < n then 0 else 1
def noQueue (S : SSt) (t : ByteArray) : Int := if 200 < t.size then 3 else if 4 ≤ S.queue.length then 8 else 0
def noDone (S : SSt) : Int := if S.queue.length = 0 then 10 else 0

theorem cell_alloc {w : World} {p : Addr} {v : Value} (h : w.cell? p = some v) (o : Obj) : (w.alloc o).cell? p = some v := by
  have hl := World.block_lt_of_cell? _ _ h
  exact (World.cell?_of_block (Below.heap_alloc _ _ _ hl)).trans h

set_option maxRecDepth 100000 in
theorem queueC_any {w : World} {S : SSt} {ev : Value} {A : Option Addr} {c : Nat} (g : Nat) (t : ByteArray) (hc : w.cell? ⟨g, 0, none⟩ = some (.string t)) :
    Calls Tryd.prog 41 #[agg4 S ev (.slice A S.queue.length c), .pointer (some ⟨g, 0, none⟩)] w fun e w' => e = .returned (.int .i64 (noQueue S t)) ∧ Below w.heap.size w w' := by
  have HU := Lib.hid unless_any
  unfold agg4
  have hc2 := cell_alloc hc
  obtain ⟨R, hR⟩ : ∃ R, R = noQueue S t := ⟨_, rfl⟩
  rw [← hR]
  unfold noQueue at hR
  obtain ⟨n, hn⟩ : ∃ n, n = S.queue.length := ⟨_, rfl⟩
  rw [← hn] at hR ⊢
  clear hn hc
  by_cases h1 : 200 < t.size
  · rw [if_pos h1] at hR
    subst hR
    go_enter Tryd.func41, Tryd.ntmps41
    go_wp2_with fail
    go_ret
    exact ⟨rfl, (Below.refl _ _).alloc (Nat.le_refl _) _⟩
  · rw [if_neg h1] at hR
    by_cases h2 : 4 ≤ n
    · rw [if_pos h2] at hR
      subst hR
      have h3 : decide ((4 : Int) ≤ (n : Int)) = true := decide_eq_true (by omega)
      go_enter Tryd.func41, Tryd.ntmps41
      go_wp2_with (go_at_call 42; refine (HU.out _ _ _).mono ?_; rintro e w1 ⟨rfl, rfl⟩)
      go_ret
      exact ⟨rfl, (Below.refl _ _).alloc (Nat.le_refl _) _⟩
    · rw [if_neg h2] at hR
      subst hR
      have h3 : decide ((4 : Int) ≤ (n : Int)) = false := decide_eq_false (by omega)
      go_enter Tryd.func41, Tryd.ntmps41
      go_wp2_with (go_at_call 42; refine (HU.out _ _ _).mono ?_; rintro e w1 ⟨rfl, rfl⟩)
      go_ret
      exact ⟨rfl, (Below.refl _ _).alloc (Nat.le_refl _) _⟩

set_option maxRecDepth 100000 in
theorem eventC_any {w : World} {S : SSt} {ev qu : Value} (g : Nat) (t : ByteArray) (hc : w.cell? ⟨g, 0, none⟩ = some (.string t)) :
    Calls Tryd.prog 56 #[agg4 S ev qu, .pointer (some ⟨g, 0, none⟩)] w fun e w' => e = .returned (.int .i64 (noEvent t)) ∧ Below w.heap.size w w' := by
  have HU := Lib.hid unless_any
  unfold agg4
  have hc2 := cell_alloc hc
  obtain ⟨R, hR⟩ : ∃ R, R = noEvent t := ⟨_, rfl⟩
  rw [← hR]
  unfold noEvent at hR
  clear hc
  by_cases h2 : 65535 ≤ t.size
  · rw [if_pos h2] at hR
    subst hR
    have h3 : decide ((65535 : Int) ≤ (t.size : Int)) = true := decide_eq_true (by omega)
    go_enter Tryd.func56, Tryd.ntmps56
    go_wp2_with (go_at_call 42; refine (HU.out _ _ _).mono ?_; rintro e w1 ⟨rfl, rfl⟩)
    go_ret
    exact ⟨rfl, (Below.refl _ _).alloc (Nat.le_refl _) _⟩
  · rw [if_neg h2] at hR
    subst hR
    have h3 : decide ((65535 : Int) ≤ (t.size : Int)) = false := decide_eq_false (by omega)
    go_enter Tryd.func56, Tryd.ntmps56
    go_wp2_with (go_at_call 42; refine (HU.out _ _ _).mono ?_; rintro e w1 ⟨rfl, rfl⟩)
    go_ret
    exact ⟨rfl, (Below.refl _ _).alloc (Nat.le_refl _) _⟩

set_option maxRecDepth 100000 in
theorem enterC_any {w : World} {S : SSt} {ev qu : Value} (g : Nat) (t : ByteArray) (hc : w.cell? ⟨g, 0, none⟩ = some (.string t)) :
    Calls Tryd.prog 55 #[agg4 S ev qu, .pointer (some ⟨g, 0, none⟩)] w fun e w' => e = .returned (.int .i64 (noEnter S t)) ∧ Below w.heap.size w w' := by
  have HU := Lib.hid unless_any
  unfold agg4
  have hc2 := cell_alloc hc
  obtain ⟨R, hR⟩ : ∃ R, R = noEnter S t := ⟨_, rfl⟩
  rw [← hR]
  unfold noEnter at hR
  obtain ⟨rm, hrm⟩ : ∃ rm, rm = S.room := ⟨_, rfl⟩
  rw [← hrm] at hR ⊢
  clear hc hrm
  by_cases h1 : t.size = 32
  · rw [if_pos h1] at hR
    have h1' : ((t.size : Int) == 32) = true := by rw [h1]; rfl
    by_cases h2 : rm.size = 0
    · rw [if_pos h2] at hR
      subst hR
      have h3 : rm.toList = [] := by rw [ByteArray.toList_eq]; exact List.eq_nil_of_length_eq_zero (by rw [Array.length_toList]; exact h2)
      have h4 : rm.toList.isEmpty = true := List.isEmpty_iff.2 h3
      go_enter Tryd.func55, Tryd.ntmps55
      go_wp2_with (go_at_call 42; refine (HU.out _ _ _).mono ?_; rintro e w1 ⟨rfl, rfl⟩)
      go_ret
      exact ⟨rfl, (Below.refl _ _).alloc (Nat.le_refl _) _⟩
    · rw [if_neg h2] at hR
      subst hR
      have h3 : ¬ rm.toList = [] := fun h => h2 (toList_nil_size h)
      have h4 : rm.toList.isEmpty = false := by rw [Bool.eq_false_iff]; intro h; exact h3 (List.isEmpty_iff.1 h)
      go_enter Tryd.func55, Tryd.ntmps55
      go_wp2_with (go_at_call 42; refine (HU.out _ _ _).mono ?_; rintro e w1 ⟨rfl, rfl⟩)
      go_ret
      exact ⟨rfl, (Below.refl _ _).alloc (Nat.le_refl _) _⟩
  · rw [if_neg h1] at hR
    subst hR
    have h1' : ((t.size : Int) == 32) = false := by rw [beq_eq_false_iff_ne]; omega
    go_enter Tryd.func55, Tryd.ntmps55
    go_wp2_with fail
    go_ret
    exact ⟨rfl, (Below.refl _ _).alloc (Nat.le_refl _) _⟩

set_option maxRecDepth 100000 in
theorem spendC_any {w : World} {S : SSt} {ev qu : Value} (g h : Nat) (n : Int) (ok : Bool) (hc : w.cell? ⟨g, 0, none⟩ = some (.bool ok)) (hd : w.cell? ⟨h, 0, none⟩ = some (.int .i64 n)) :
    Calls Tryd.prog 58 #[agg4 S ev qu, .pointer (some ⟨g, 0, none⟩), .pointer (some ⟨h, 0, none⟩)] w fun e w' => e = .returned (.int .i64 (noSpend S n ok)) ∧ Below w.heap.size w w' := by
  have HU := Lib.hid unless_any
  unfold agg4
  have hc2 := cell_alloc hc
  have hd2 := cell_alloc hd
  obtain ⟨R, hR⟩ : ∃ R, R = noSpend S n ok := ⟨_, rfl⟩
  rw [← hR]
  unfold noSpend at hR
  obtain ⟨us, hus⟩ : ∃ us, us = S.used := ⟨_, rfl⟩
  rw [← hus] at hR ⊢
  clear hc hd hus
  cases ok with
  | false =>
    rw [if_neg (by simp)] at hR
    subst hR
    go_enter Tryd.func58, Tryd.ntmps58
    go_wp2_with (go_at_call 42; refine (HU.out _ _ _).mono ?_; rintro e w1 ⟨rfl, rfl⟩)
    go_ret
    exact ⟨rfl, (Below.refl _ _).alloc (Nat.le_refl _) _⟩
  | true =>
    by_cases h2 : us < n
    · rw [if_pos ⟨rfl, h2⟩] at hR
      subst hR
      have h3 : decide (n ≤ us) = false := decide_eq_false (by omega)
      go_enter Tryd.func58, Tryd.ntmps58
      go_wp2_with (go_at_call 42; refine (HU.out _ _ _).mono ?_; rintro e w1 ⟨rfl, rfl⟩)
      go_ret
      exact ⟨rfl, (Below.refl _ _).alloc (Nat.le_refl _) _⟩
    · rw [if_neg (fun h => h2 h.2)] at hR
      subst hR
      have h3 : decide (n ≤ us) = true := decide_eq_true (by omega)
      go_enter Tryd.func58, Tryd.ntmps58
      go_wp2_with (go_at_call 42; refine (HU.out _ _ _).mono ?_; rintro e w1 ⟨rfl, rfl⟩)
      go_ret
      exact ⟨rfl, (Below.refl _ _).alloc (Nat.le_refl _) _⟩

end Go.Proofs.YtdogmcpmlglkfaaDoor

namespace Go.Proofs.YtdogmcpmlglkfaaDoor
open Go.RowKit Go.Proofs.YtdogmcpmlglkfaaDoorW.PrintWords

theorem LayPost.from {C g q p r : Nat} {F : Nat → Prop} {no : Int} {S : SSt} {L : LSt} {D : DSt} {rec : ByteArray} {w w1 : World} {e : Ending} {w' : World} (h : LayPost C g q p r F no S L D rec w1 e w') (hb : Below w.heap.size w w1) : LayPost C g q p r F no S L D rec w e w' :=
  ⟨h.1, (by obtain ⟨F', h1, h2⟩ := h.2.1; exact ⟨F', h1, fun b hb' => h2 b (Nat.lt_of_lt_of_le hb' hb.size)⟩), h.2.2.1, h.2.2.2.1, (Fr.of_below (S := fun _ => False) hb |>.mono (fun _ _ h => h.elim)).trans h.2.2.2.2 (fun _ _ h => h)⟩

theorem StRep.below {w w' : World} {C g q : Nat} {S : SSt} (h : StRep w C g q S) (hb : Below w.heap.size w w') : StRep w' C g q S := by
  obtain ⟨ev, qu, h⟩ := h
  exact ⟨ev, qu, h.below hb⟩

theorem StRepF.below {w w' : World} {C g q : Nat} {S : SSt} {F : Nat → Prop} (h : StRepF w C g q S F) (hb : Below w.heap.size w w') : StRepF w' C g q S F := by
  obtain ⟨ev, qu, h, hF⟩ := h
  exact ⟨ev, qu, h.below hb, hF.size hb.size⟩

set_option maxHeartbeats 1000000 in
set_option maxRecDepth 100000 in
theorem enter_any {w : World} {C g q p r n : Nat} {F : Nat → Prop} {S : SSt} {L : LSt} {D : DSt} (t : ByteArray) (ht : t.size ≤ 1000000) (h : StRepF w C g q S F) (hl : LogRep w q p L) (hd : DRep w p r D) (hL : LOk L) (hD : DOk n D) (hq : q < C) (hp : p < C) (hr : r < C) (hsz : S.events.length ≤ 1000000 ∧ S.queue.length ≤ 1000000) :
    Calls Tryd.prog 36 #[.pointer (some ⟨g, 0, none⟩), .string t] w fun e w' => LayPost C g q p r F (noEnter S t) S L D (⟨#[82]⟩ ++ t) w e w' := by
  have HLAY := Lib.hid (fun (W : World) (hc : W.cell? ⟨w.heap.size, 0, none⟩ = some (.string t)) (h : StRepF W C g q S F) (hl : LogRep W q p L) (hd : DRep W p r D) => lay_enter (⟨#[82]⟩ ++ t) ⟨w.heap.size, 0, none⟩ (noEnter S t) h hl hd hL hD hq hp hr hsz (fun ev A c => enterC_any w.heap.size t hc))
  have HS := Lib.hid h
  have HL := Lib.hid hl
  have HD := Lib.hid hd
  have h1 : ¬ 9223372036854775807 < 1 + t.size := by omega
  clear h hl hd
  obtain ⟨w1, hw1⟩ : ∃ w1, w1 = w.alloc (.cells #[.string t] 9) := ⟨_, rfl⟩
  have HB1 := Lib.hid (show Below w.heap.size w w1 by rw [hw1]; exact (Below.refl _ _).alloc (Nat.le_refl _) _)
  have hcell : w1.cell? ⟨w.heap.size, 0, none⟩ = some (.string t) := by rw [hw1, World.cell?, heap_alloc_new]; rfl
  have HW := Lib.hid hw1
  clear hw1
  go_enter Tryd.func36, Tryd.ntmps36
  go_upto_region 1 with fail
  rw [← HW.out]
  go_wp2_with (go_at_call 40; refine (HLAY.out w1 hcell (HS.out.below HB1.out) (HL.out.below HB1.out) (HD.out.below HB1.out)).mono ?_; rintro e w2 hp2; have HP2 := Lib.hid hp2; obtain ⟨he, hp2⟩ := hp2; subst he; clear hp2)
  go_ret
  exact HP2.out.from HB1.out

set_option maxHeartbeats 1000000 in
set_option maxRecDepth 100000 in
theorem event_any {w : World} {C g q p r n : Nat} {F : Nat → Prop} {S : SSt} {L : LSt} {D : DSt} (t : ByteArray) (ht : t.size ≤ 1000000) (h : StRepF w C g q S F) (hl : LogRep w q p L) (hd : DRep w p r D) (hL : LOk L) (hD : DOk n D) (hq : q < C) (hp : p < C) (hr : r < C) (hsz : S.events.length ≤ 1000000 ∧ S.queue.length ≤ 1000000) :
    Calls Tryd.prog 37 #[.pointer (some ⟨g, 0, none⟩), .string t] w fun e w' => LayPost C g q p r F (noEvent t) S L D (⟨#[69]⟩ ++ t) w e w' := by
  have HLAY := Lib.hid (fun (W : World) (hc : W.cell? ⟨w.heap.size, 0, none⟩ = some (.string t)) (h : StRepF W C g q S F) (hl : LogRep W q p L) (hd : DRep W p r D) => lay_event (⟨#[69]⟩ ++ t) ⟨w.heap.size, 0, none⟩ (noEvent t) h hl hd hL hD hq hp hr hsz (fun ev A c => eventC_any w.heap.size t hc))
  have HS := Lib.hid h
  have HL := Lib.hid hl
  have HD := Lib.hid hd
  have h1 : ¬ 9223372036854775807 < 1 + t.size := by omega
  clear h hl hd
  obtain ⟨w1, hw1⟩ : ∃ w1, w1 = w.alloc (.cells #[.string t] 9) := ⟨_, rfl⟩
  have HB1 := Lib.hid (show Below w.heap.size w w1 by rw [hw1]; exact (Below.refl _ _).alloc (Nat.le_refl _) _)
  have hcell : w1.cell? ⟨w.heap.size, 0, none⟩ = some (.string t) := by rw [hw1, World.cell?, heap_alloc_new]; rfl
  have HW := Lib.hid hw1
  clear hw1
  go_enter Tryd.func37, Tryd.ntmps37
  go_upto_region 1 with fail
  rw [← HW.out]
  go_wp2_with (go_at_call 40; refine (HLAY.out w1 hcell (HS.out.below HB1.out) (HL.out.below HB1.out) (HD.out.below HB1.out)).mono ?_; rintro e w2 hp2; have HP2 := Lib.hid hp2; obtain ⟨he, hp2⟩ := hp2; subst he; clear hp2)
  go_ret
  exact HP2.out.from HB1.out

set_option maxHeartbeats 1000000 in
set_option maxRecDepth 100000 in
theorem queue_any {w : World} {C g q p r n : Nat} {F : Nat → Prop} {S : SSt} {L : LSt} {D : DSt} (t : ByteArray) (ht : t.size ≤ 1000000) (h : StRepF w C g q S F) (hl : LogRep w q p L) (hd : DRep w p r D) (hL : LOk L) (hD : DOk n D) (hq : q < C) (hp : p < C) (hr : r < C) (hsz : S.events.length ≤ 1000000 ∧ S.queue.length ≤ 1000000) :
    Calls Tryd.prog 22 #[.pointer (some ⟨g, 0, none⟩), .string t] w fun e w' => LayPost C g q p r F (noQueue S t) S L D (⟨#[81]⟩ ++ t) w e w' := by
  have HLAY := Lib.hid (fun (W : World) (hc : W.cell? ⟨w.heap.size, 0, none⟩ = some (.string t)) (h : StRepF W C g q S F) (hl : LogRep W q p L) (hd : DRep W p r D) => lay_queue (⟨#[81]⟩ ++ t) ⟨w.heap.size, 0, none⟩ (noQueue S t) h hl hd hL hD hq hp hr hsz (fun ev A c => queueC_any w.heap.size t hc))
  have HS := Lib.hid h
  have HL := Lib.hid hl
  have HD := Lib.hid hd
  have h1 : ¬ 9223372036854775807 < 1 + t.size := by omega
  clear h hl hd
  obtain ⟨w1, hw1⟩ : ∃ w1, w1 = w.alloc (.cells #[.string t] 9) := ⟨_, rfl⟩
  have HB1 := Lib.hid (show Below w.heap.size w w1 by rw [hw1]; exact (Below.refl _ _).alloc (Nat.le_refl _) _)
  have hcell : w1.cell? ⟨w.heap.size, 0, none⟩ = some (.string t) := by rw [hw1, World.cell?, heap_alloc_new]; rfl
  have HW := Lib.hid hw1
  clear hw1
  go_enter Tryd.func22, Tryd.ntmps22
  go_upto_region 1 with fail
  rw [← HW.out]
  go_wp2_with (go_at_call 40; refine (HLAY.out w1 hcell (HS.out.below HB1.out) (HL.out.below HB1.out) (HD.out.below HB1.out)).mono ?_; rintro e w2 hp2; have HP2 := Lib.hid hp2; obtain ⟨he, hp2⟩ := hp2; subst he; clear hp2)
  go_ret
  exact HP2.out.from HB1.out

set_option maxHeartbeats 1000000 in
set_option maxRecDepth 100000 in
theorem done_any {w : World} {C g q p r n : Nat} {F : Nat → Prop} {S : SSt} {L : LSt} {D : DSt} (h : StRepF w C g q S F) (hl : LogRep w q p L) (hd : DRep w p r D) (hL : LOk L) (hD : DOk n D) (hq : q < C) (hp : p < C) (hr : r < C) (hsz : S.events.length ≤ 1000000 ∧ S.queue.length ≤ 1000000) :
    Calls Tryd.prog 23 #[.pointer (some ⟨g, 0, none⟩)] w fun e w' => LayPost C g q p r F (noDone S) S L D ⟨#[68]⟩ w e w' := by
  have HLAY := Lib.hid (lay_done ⟨#[68]⟩ (noDone S) h hl hd hL hD hq hp hr hsz (fun ev A c => doneC_any))
  clear h hl hd
  go_enter Tryd.func23, Tryd.ntmps23
  go_wp2_with (go_at_call 40; refine HLAY.out.mono ?_; rintro e w2 hp2; have HP2 := Lib.hid hp2; obtain ⟨he, hp2⟩ := hp2; subst he; clear hp2)
  go_ret
  exact HP2.out

set_option maxHeartbeats 1000000 in
set_option maxRecDepth 100000 in
theorem spend_any {w : World} {C g q p r n : Nat} {F : Nat → Prop} {S : SSt} {L : LSt} {D : DSt} (m : Int) (h : StRepF w C g q S F) (hl : LogRep w q p L) (hd : DRep w p r D) (hL : LOk L) (hD : DOk n D) (hq : q < C) (hp : p < C) (hr : r < C) (hsz : S.events.length ≤ 1000000 ∧ S.queue.length ≤ 1000000) :
    Calls Tryd.prog 38 #[.pointer (some ⟨g, 0, none⟩), .int .i64 m] w fun e w' => LayPost C g q p r F (noSpend S m (short m).2) S L D (⟨#[75]⟩ ++ (short m).1) w e w' := by
  have hsh := short_size m
  have HSH := Lib.hid (fun W => shortn_any m W)
  obtain ⟨⟨t, ok⟩, hs⟩ : ∃ X, X = short m := ⟨_, rfl⟩
  rw [← hs] at hsh HSH ⊢
  simp only at hsh HSH ⊢
  have HLAY := Lib.hid (fun (W : World) (b : Nat) (hc : W.cell? ⟨b, 0, none⟩ = some (.bool ok)) (hc2 : W.cell? ⟨w.heap.size, 0, none⟩ = some (.int .i64 m)) (h : StRepF W C g q S F) (hl : LogRep W q p L) (hd : DRep W p r D) => lay_spend (⟨#[75]⟩ ++ t) ⟨b, 0, none⟩ ⟨w.heap.size, 0, none⟩ (noSpend S m ok) h hl hd hL hD hq hp hr hsz (fun ev A c => spendC_any b w.heap.size m ok hc hc2))
  have HS := Lib.hid h
  have HL := Lib.hid hl
  have HD := Lib.hid hd
  have h1 : ¬ 9223372036854775807 < 1 + t.size := by omega
  clear h hl hd hs
  obtain ⟨w1, hw1⟩ : ∃ w1, w1 = w.alloc (.cells #[.int .i64 m] 3) := ⟨_, rfl⟩
  have HB1 := Lib.hid (show Below w.heap.size w w1 by rw [hw1]; exact (Below.refl _ _).alloc (Nat.le_refl _) _)
  have hcell : w1.cell? ⟨w.heap.size, 0, none⟩ = some (.int .i64 m) := by rw [hw1, World.cell?, heap_alloc_new]; rfl
  have HW := Lib.hid hw1
  clear hw1
  go_enter Tryd.func38, Tryd.ntmps38
  go_upto_region 1 with fail
  rw [← HW.out]
  go_upto_region 2 with (go_at_call 57; refine (HSH.out _).mono ?_; rintro e w2 ⟨rfl, hb2⟩; have HB2 := Lib.hid hb2; clear hb2)
  obtain ⟨w3, hw3⟩ : ∃ w3, w3 = w2.alloc (.cells #[.bool ok] 4) := ⟨_, rfl⟩
  have HB3 := Lib.hid (show Below w1.heap.size w1 w3 by rw [hw3]; exact HB2.out.alloc HB2.out.size _)
  have hc3 : w3.cell? ⟨w2.heap.size, 0, none⟩ = some (.bool ok) := by rw [hw3, World.cell?, heap_alloc_new]; rfl
  have hc4 : w3.cell? ⟨w.heap.size, 0, none⟩ = some (.int .i64 m) := (HB3.out.cell (World.block_lt_of_cell? _ _ hcell)).trans hcell
  rw [← hw3]
  clear hw3
  have HC := Lib.hid (And.intro hc3 hc4)
  have HB4 := Lib.hid (HB1.out.trans (HB3.out.mono HB1.out.size))
  clear hc3 hc4 hcell
  go_wp2_with (go_at_call 40; refine (HLAY.out w3 w2.heap.size HC.out.1 HC.out.2 (HS.out.below HB4.out) (HL.out.below HB4.out) (HD.out.below HB4.out)).mono ?_; rintro e w5 hp2; have HP2 := Lib.hid hp2; obtain ⟨he, hp2⟩ := hp2; subst he; clear hp2)
  go_ret
  exact HP2.out.from HB4.out

end Go.Proofs.YtdogmcpmlglkfaaDoor

namespace Go.Proofs.YtdogmcpmlglkfaaDoor
open Go.RowKit Go.Proofs.YtdogmcpmlglkfaaDoorW.PrintWords

/-- slices.Clone of a row of texts: a row of the call's own. -/
theorem clone_q {w : World} {B : Nat} {v : Value} {xs : List ByteArray} (h : QOwn w B 9 v xs) (hl : xs.length ≤ 1000000) :
    Calls Tryd.prog 34 #[v] w fun e w' => ∃ A c, e = .returned (.slice A xs.length c) ∧ w'.ownsRow w.heap.size 9 1 (.slice A xs.length c) xs.length (xs.map Value.string) ∧ Below w.heap.size w w' := by
  have hc := fun g off n c (hv : v = .slice (some ⟨g, off, none⟩) n c) => QOwn.cells (g := g) (off := off) (n := n) (c := c) (hv ▸ h)
  rcases h with ⟨rfl, rfl⟩ | ⟨g, off, cap, cur, rfl, hb, hg, hcap, hm, hs, hr⟩
  · refine (Tryd.slices_Clone_string_nil 0 0 w).mono ?_
    rintro e w' ⟨rfl, rfl⟩
    exact ⟨none, 0, rfl, own_none _ _ _ _, Below.refl _ _⟩
  · refine (Tryd.slices_Clone_string g off xs.length cap xs w (Nat.le_refl _) (by omega) ?_).mono ?_
    · intro j hj
      have := hc g off _ _ rfl j (.string xs[j]) (by simp [hj])
      rw [addk'] at this
      rw [this, List.getD_eq_getElem?_getD, List.getElem?_eq_getElem hj]
      rfl
    · rintro e w' ⟨v', rfl, ho, _, hbl⟩
      rw [List.take_length] at ho
      obtain ⟨A, c, rfl, _⟩ := own_slice ho
      exact ⟨A, c, rfl, ho, hbl⟩

theorem own_keep {w w' : World} {base C : Nat} {e : TypeId} {size n : Nat} {v : Value} {xs : List Value} (h : w.ownsRow base e size v n xs) (hC : C ≤ base) (hm : ∀ k, base ≤ k → k < w.heap.size → w'.heap[k]? = w.heap[k]?) : w'.ownsRow C e size v n xs := by
  refine ⟨h.1, ?_⟩
  rcases h.2 with hn | ⟨g, cap, cur, rfl, hb, hgg, rest⟩
  · exact .inl hn
  · exact .inr ⟨g, cap, cur, rfl, Nat.le_trans hC hb, (hm g hb (Array.getElem?_eq_some_iff.1 hgg).1).trans hgg, rest⟩

theorem box4f {w : World} {b : Nat} {x y z u : Value} {t : TypeId} (h : w.heap[b]? = some (.cells #[x, y, z, u] t)) :
    w.cell? ⟨b, 0, none⟩ = some x ∧ w.cell? ⟨b, 1, none⟩ = some y ∧ w.cell? ⟨b, 2, none⟩ = some z ∧ w.cell? ⟨b, 3, none⟩ = some u ∧ (∀ o, w.frozen? ⟨b, o, none⟩ = false) := by
  refine ⟨by simp [World.cell?, h], by simp [World.cell?, h], by simp [World.cell?, h], by simp [World.cell?, h], fun o => by simp [World.frozen?, h]⟩

set_option maxHeartbeats 4000000 in
set_option maxRecDepth 100000 in
theorem state_any {w : World} {C g q : Nat} {S : SSt} (h : StRep w C g q S) (hsz : S.events.length ≤ 1000000 ∧ S.queue.length ≤ 1000000) :
    Calls Tryd.prog 16 #[.pointer (some ⟨g, 0, none⟩)] w fun e w' => ∃ A c A2 c2, e = .returned (.agg #[.string S.room, .slice A S.events.length c, .int .i64 S.used, .slice A2 S.queue.length c2]) ∧ 
      w'.ownsRow w.heap.size 9 1 (.slice A S.events.length c) S.events.length (S.events.map Value.string) ∧ w'.ownsRow w.heap.size 9 1 (.slice A2 S.queue.length c2) S.queue.length (S.queue.map Value.string) ∧ Below w.heap.size w w' := by
  obtain ⟨ev, qu, hst⟩ := h
  obtain ⟨c0, c1, c2, c3, c4, cf⟩ := box5 hst.blk
  have HST := Lib.hid hst
  have d0 := fun o => cell_alloc c0 o
  have d1 := fun o => cell_alloc c1 o
  have d2 := fun o => cell_alloc c2 o
  have d3 := fun o => cell_alloc c3 o
  obtain ⟨A, cc, rfl, _⟩ := hst.evs.slice
  obtain ⟨A2, cc2, rfl, _⟩ := hst.qus.slice
  clear hst c0 c1 c2 c3 c4 cf
  go_enter Tryd.func16, Tryd.ntmps16
  go_upto_region 4 with fail
  obtain ⟨w1, hw1⟩ : ∃ w1, w1 = (w.alloc (.cells #[.string ⟨#[]⟩, .slice none 0 0, .int .i64 0, .slice none 0 0] 40)).alloc (.cells #[.string S.room, .slice A S.events.length cc, .int .i64 S.used, .slice A2 S.queue.length cc2] 40) := ⟨_, rfl⟩
  have hb1 : Below w.heap.size w w1 := by rw [hw1]; exact ((Below.refl _ _).alloc (Nat.le_refl _) _).alloc (by rw [asz]; omega) _
  have hblk : w1.heap[w.heap.size + 1]? = some (.cells #[.string S.room, .slice A S.events.length cc, .int .i64 S.used, .slice A2 S.queue.length cc2] 40) := by rw [hw1, show w.heap.size + 1 = (w.alloc (.cells #[.string ⟨#[]⟩, .slice none 0 0, .int .i64 0, .slice none 0 0] 40)).heap.size by rw [asz]]; exact heap_alloc_new _ _
  have hblk0 : w1.heap[w.heap.size]? = some (.cells #[.string ⟨#[]⟩, .slice none 0 0, .int .i64 0, .slice none 0 0] 40) := by rw [hw1, Below.heap_alloc _ _ _ (by rw [asz]; omega)]; exact heap_alloc_new _ _
  have HBLK0 := Lib.hid hblk0
  obtain ⟨e0, e1, e2, e3, ef⟩ := box4f hblk
  have ef1 := ef 1
  have ef3 := ef 3
  have HBLK := Lib.hid hblk
  have HB1 := Lib.hid hb1
  have HEV := Lib.hid (fun (W : World) (hb : Below w1.heap.size w1 W) => clone_q ((HST.out.below hb1).evs.below hb) hsz.1)
  have HQU := Lib.hid (fun (W : World) (hb : Below w1.heap.size w1 W) => clone_q ((HST.out.below hb1).qus.below hb) hsz.2)
  rw [← hw1]
  clear hw1 hblk hblk0 hb1 d0 d1 d2 d3 ef
  have hbx := (Below.refl w1.heap.size w1).drew
  have hl1 : w.heap.size + 1 < w1.heap.size := World.block_lt_of_cell? _ _ e1
  have e1x : w1.drew.cell? ⟨w.heap.size + 1, 1, none⟩ = some (.slice A S.events.length cc) := e1
  have e3x : w1.drew.cell? ⟨w.heap.size + 1, 3, none⟩ = some (.slice A2 S.queue.length cc2) := e3
  go_region_with
    (first
      | (go_at_call 34; refine (HQU.out _ hx2).mono ?_; rintro e w3 ⟨B2, k2, rfl, ho3, hb3⟩; have hx3 := hx2.trans (hb3.mono hx2.size); have ht1 := (hx3.cell (World.block_lt_of_cell? _ _ e1)).trans e1; have ht3 := (hx3.cell (World.block_lt_of_cell? _ _ e3)).trans e3; have hf1 := (World.frozen?_of_block (a := ⟨w.heap.size + 1, 1, none⟩) (hx3.block (w.heap.size + 1) hl1)).trans ef1; have hf3 := (World.frozen?_of_block (a := ⟨w.heap.size + 1, 3, none⟩) (hx3.block (w.heap.size + 1) hl1)).trans ef3)
      | (go_at_call 34; refine (HEV.out _ hbx).mono ?_; rintro e w2 ⟨B1, k1, rfl, ho2, hb2⟩; have hx2 := hbx.trans (hb2.mono hbx.size); have hs1 := (hx2.cell (World.block_lt_of_cell? _ _ e1)).trans e1; have hs3 := (hx2.cell (World.block_lt_of_cell? _ _ e3)).trans e3))
  all_goals
    have hk1 := (hx3.block (w.heap.size + 1) hl1).trans HBLK.out
    have hk0 := (hx3.block w.heap.size (by omega)).trans HBLK0.out
    have hr1 := setCell_row (j := 3) (.slice B2 S.queue.length k2) (setCell_row (j := 1) (.slice B1 S.events.length k1) hk1)
    have hr0 : ((w3.setCell ⟨w.heap.size + 1, 1, none⟩ (.slice B1 S.events.length k1)).setCell ⟨w.heap.size + 1, 3, none⟩ (.slice B2 S.queue.length k2)).heap[w.heap.size]? = _ := (Below.heap_setCell _ _ _ _ (by show w.heap.size ≠ w.heap.size + 1; omega)).trans ((Below.heap_setCell _ _ _ _ (by show w.heap.size ≠ w.heap.size + 1; omega)).trans hk0)
    have HO1 := Lib.hid ho2
    have HO3 := Lib.hid ho3
    have HX3 := Lib.hid hx3
    have HX2 := Lib.hid hb3
    have HB12 := Lib.hid hx2
    obtain ⟨w4, hw4⟩ : ∃ w4, w4 = ((w3.setCell ⟨w.heap.size + 1, 1, none⟩ (.slice B1 S.events.length k1)).setCell ⟨w.heap.size + 1, 3, none⟩ (.slice B2 S.queue.length k2)) := ⟨_, rfl⟩
    have HW4 := Lib.hid hw4
    rw [← hw4] at hr1 hr0 ⊢
    clear hw4 ho2 ho3 hx2 hx3 hs1 hs3 ht1 ht3 hf1 hf3 e0 e1 e2 e3 e1x e3x hbx ef1 ef3 hk0 hk1 hb2 hb3
    obtain ⟨c0, c1, c2, c3, cf⟩ := box4f hr1
    obtain ⟨d0, d1, d2, d3, df⟩ := box4f hr0
    have df0 := df 0
    have df1 := df 1
    have df2 := df 2
    have df3 := df 3
    clear cf df
    have HR1 := Lib.hid hr1
    have HR0 := Lib.hid hr0
    clear hr1 hr0
    go_wp2_with fail
    (try simp only [Exit.inBlock, Exit.then])
    have hz : w1.heap.size ≤ w2.heap.size := by have := HB12.out.size; exact this
    have hmv : ∀ k, w.heap.size + 1 < k → k < w3.heap.size → (((((w4.setCell ⟨w.heap.size, 0, none⟩ (.string S.room)).setCell ⟨w.heap.size, 1, none⟩ (.slice B1 S.events.length k1)).setCell ⟨w.heap.size, 2, none⟩ (.int .i64 S.used)).setCell ⟨w.heap.size, 3, none⟩ (.slice B2 S.queue.length k2)).heap[k]? = w3.heap[k]?) := fun k h1 _ => by
      have e0 : k ≠ w.heap.size := by omega
      have e1 : k ≠ w.heap.size + 1 := by omega
      rw [Below.heap_setCell _ _ _ _ e0, Below.heap_setCell _ _ _ _ e0, Below.heap_setCell _ _ _ _ e0, Below.heap_setCell _ _ _ _ e0, HW4.out, Below.heap_setCell _ _ _ _ e1, Below.heap_setCell _ _ _ _ e1]
    refine ret_state rfl w.heap.size _ _ _ _ rfl (setCell_row _ (setCell_row _ (setCell_row _ (setCell_row _ HR0.out)))) rfl ⟨_, _, _, _, rfl, ?_, ?_, ?_⟩
    · exact own_keep (own_below HO1.out HX2.out) (by show w.heap.size ≤ w1.heap.size; omega) (fun k h1 h2 => hmv k (Nat.lt_of_lt_of_le hl1 h1) h2)
    · exact own_keep HO3.out (by omega) (fun k h1 h2 => hmv k (by omega) h2)
    · have hb3 := HB1.out.trans (HX3.out.mono (by omega))
      have hb4 : Below w.heap.size w w4 := by
        rw [HW4.out]
        exact (hb3.setCell (p := ⟨w.heap.size + 1, 1, none⟩) (by show w.heap.size ≤ w.heap.size + 1; omega) _).setCell (p := ⟨w.heap.size + 1, 3, none⟩) (by show w.heap.size ≤ w.heap.size + 1; omega) _
      exact (((hb4.setCell (p := ⟨w.heap.size, 0, none⟩) (Nat.le_refl _) _).setCell (p := ⟨w.heap.size, 1, none⟩) (Nat.le_refl _) _).setCell (p := ⟨w.heap.size, 2, none⟩) (Nat.le_refl _) _).setCell (p := ⟨w.heap.size, 3, none⟩) (Nat.le_refl _) _

end Go.Proofs.YtdogmcpmlglkfaaDoor
