/- WaitPlays: what the law keeps, in memory: a row of its own structs, each with a row of texts. -/
import Derived.Test.YtaecjkffemmpcaaPl0
namespace Go.Proofs.Ytaecjkffemmpcaa
open Go.RowKit Go.Proofs.YtaecjkffemmpcaaW.PrintWords Go.Proofs.Ytaecjkffemmpcaa.PRef

def ncells : List WItem → List Value → List Value
  | x :: l, u :: us => .string x.id :: .string x.text :: u :: ncells l us
  | _, _ => []

theorem ncells_snoc : ∀ {l : List WItem} {us : List Value} (x : WItem) (u : Value), us.length = l.length → ncells (l ++ [x]) (us ++ [u]) = ncells l us ++ [.string x.id, .string x.text, u]
  | [], [], x, u, _ => rfl
  | [], _ :: _, _, _, h => by simp at h
  | _ :: _, [], _, _, h => by simp at h
  | y :: l, v :: us, x, u, h => by
    simp only [List.length_cons, Nat.add_right_cancel_iff] at h
    simp [ncells, ncells_snoc x u h]

theorem ncells_length : ∀ {l : List WItem} {us : List Value}, us.length = l.length → (ncells l us).length = l.length * 3
  | [], [], _ => rfl
  | [], _ :: _, h => by simp at h
  | _ :: _, [], h => by simp at h
  | x :: l, r :: us, h => by
    simp only [List.length_cons, Nat.add_right_cancel_iff] at h
    simp [ncells, ncells_length h]
    omega

theorem ncells_at : ∀ {l : List WItem} {us : List Value} {k : Nat} {x : WItem} {u : Value}, l[k]? = some x → us[k]? = some u →
    (ncells l us)[k * 3]? = some (.string x.id) ∧ (ncells l us)[k * 3 + 1]? = some (.string x.text) ∧ (ncells l us)[k * 3 + 2]? = some u
  | [], us, k, x, u, h, _ => by simp at h
  | y :: l, [], k, x, u, h, hl => by simp at hl
  | y :: l, r :: us, 0, x, u, h, hl => by
    simp only [List.getElem?_cons_zero, Option.some.injEq] at h hl
    subst h hl
    exact ⟨rfl, rfl, rfl⟩
  | y :: l, r :: us, k + 1, x, u, h, hl => by
    simp only [List.getElem?_cons_succ] at h hl
    obtain ⟨h2, h3, h4⟩ := ncells_at h hl
    refine ⟨?_, ?_, ?_⟩
    · rw [show (k + 1) * 3 = k * 3 + 1 + 1 + 1 by omega]; simpa [ncells] using h2
    · rw [show (k + 1) * 3 + 1 = k * 3 + 1 + 1 + 1 + 1 by omega]; simpa [ncells] using h3
    · rw [show (k + 1) * 3 + 2 = k * 3 + 2 + 1 + 1 + 1 by omega]; simpa [ncells] using h4

/-- The blocks of the row v and of the rows us in it. -/
def NBlk (v : Value) (us : List Value) (b : Nat) : Prop := v.ownBlock = some b ∨ ∃ u ∈ us, u.ownBlock = some b

/-- The row v, of the call's own, holds those who wait, the rows us in it their texts. -/
def NRow (w : World) (B : Nat) (v : Value) (us : List Value) (lw : List WItem) : Prop :=
  us.length = lw.length ∧ w.ownsRow B 44 3 v lw.length (ncells lw us) ∧
    ∀ (i : Nat) (x : WItem) (u : Value), lw[i]? = some x → us[i]? = some u → w.ownsRow B 9 1 u (srt x.miss).length ((srt x.miss).map Value.string)

theorem NRow.nil (w : World) (B : Nat) : NRow w B (.slice none 0 0) [] [] := ⟨rfl, World.ownsRow_nil _ _ _ _, fun i x u h _ => by simp at h⟩

theorem NRow.lt {w : World} {B : Nat} {v : Value} {us : List Value} {lw : List WItem} (h : NRow w B v us lw) {b : Nat} (hb : NBlk v us b) : B ≤ b ∧ b < w.heap.size := by
  rcases hb with hb | ⟨u, hu, hb⟩
  · exact h.2.1.lt b hb
  · obtain ⟨i, hi⟩ := List.getElem?_of_mem hu
    have hl : i < lw.length := by rw [← h.1]; exact (List.getElem?_eq_some_iff.1 hi).1
    exact (h.2.2 i lw[i] u (List.getElem?_eq_getElem hl) hi).lt b hb

theorem NRow.move {w w' : World} {B : Nat} {v : Value} {us : List Value} {lw : List WItem} (h : NRow w B v us lw) (hm : ∀ b, NBlk v us b → w'.heap[b]? = w.heap[b]?) : NRow w' B v us lw :=
  ⟨h.1, ownsRow_move h.2.1 fun b hb => hm b (.inl hb), fun i x u hi hu => ownsRow_move (h.2.2 i x u hi hu) fun b hb => hm b (.inr ⟨u, List.mem_of_getElem? hu, hb⟩)⟩

theorem NRow.fr {w w' : World} {F : Nat → Prop} {B : Nat} {v : Value} {us : List Value} {lw : List WItem} (h : NRow w B v us lw) (hf : Fr F w w') (hd : ∀ b, NBlk v us b → ¬ F b) : NRow w' B v us lw :=
  h.move fun b hb => hf.block b (h.lt hb).2 (hd b hb)

theorem NRow.below {w w' : World} {B : Nat} {v : Value} {us : List Value} {lw : List WItem} (h : NRow w B v us lw) (hb : Below w.heap.size w w') : NRow w' B v us lw :=
  h.move fun b hn => hb.block b (h.lt hn).2

/-- The cells of the one at k. -/
theorem NRow.at_ {w : World} {B : Nat} {v : Value} {us : List Value} {lw : List WItem} (h : NRow w B v us lw) {k : Nat} (hk : k < lw.length) : ∃ g c u, v = .slice (some ⟨g, 0, none⟩) lw.length c ∧ us[k]? = some u ∧ g < w.heap.size ∧ v.ownBlock = some g ∧
    w.cell? ⟨g, k * 3, none⟩ = some (.string lw[k].id) ∧ w.cell? ⟨g, k * 3 + 1, none⟩ = some (.string lw[k].text) ∧ w.cell? ⟨g, k * 3 + 2, none⟩ = some u := by
  have hc := fun g (hg : v.ownBlock = some g) => h.2.1.cells hg
  have hlt := h.2.1.lt
  have huk : k < us.length := by rw [h.1]; exact hk
  rcases h.2.1.2 with ⟨rfl, h0⟩ | ⟨g, cap, cur, rfl, hb, hg, hn, hm, hs, ht⟩
  · omega
  · obtain ⟨h2, h3, h4⟩ := ncells_at (List.getElem?_eq_getElem hk) (List.getElem?_eq_getElem huk)
    have ha : ∀ j, (⟨g, 0, none⟩ : Addr).add j = ⟨g, j, none⟩ := fun j => by unfold Addr.add; split <;> simp_all
    have hcg := hc g (by simp [Value.ownBlock])
    refine ⟨g, cap, us[k], rfl, List.getElem?_eq_getElem huk, (hlt g (by simp [Value.ownBlock])).2, rfl, ?_, ?_, ?_⟩
    · rw [← ha]; exact hcg _ _ h2
    · rw [← ha]; exact hcg _ _ h3
    · rw [← ha]; exact hcg _ _ h4

/-- It is read as the law's functions read it. -/
theorem NRow.read {w : World} {B : Nat} {v : Value} {us : List Value} {lw : List WItem} (h : NRow w B v us lw) (hl : lw.length ≤ 1000) (hm : ∀ x ∈ lw, x.miss.length ≤ 1000) :
    ∃ A c, v = .slice A lw.length c ∧ lw.length ≤ c ∧ Kd.C k44 w A lw.length (lw.map toOne) := by
  have hAt := fun k (hk : k < lw.length) => h.at_ hk
  obtain ⟨A, c, rfl, hc⟩ := own_slice h.2.1
  refine ⟨A, c, rfl, hc, List.length_map _, by omega, fun h0 => ?_⟩
  obtain ⟨g, c', u, e, _⟩ := hAt 0 h0
  cases e
  refine ⟨_, rfl, fun j p hj => ?_⟩
  rw [List.getElem?_map, Option.map_eq_some_iff] at hj
  obtain ⟨x, hx, rfl⟩ := hj
  obtain ⟨hjl, rfl⟩ := List.getElem?_eq_some_iff.1 hx
  obtain ⟨g', c'', u, e, hu, hgl, _, h1, h2, h3⟩ := hAt j hjl
  cases e
  have hmj := hm lw[j] (List.getElem_mem hjl)
  have hsl := srt_length lw[j].miss
  obtain ⟨A2, c2, rfl, hc2, hr2, _⟩ := own_read (h.2.2 j lw[j] u hx hu) (by omega)
  have ha : ∀ j, (⟨g, 0, none⟩ : Addr).add j = ⟨g, j, none⟩ := fun j => by unfold Addr.add; split <;> simp_all
  refine ⟨[.string lw[j].id, .string lw[j].text, .slice A2 (srt lw[j].miss).length c2], rfl, k44_mk w (toOne lw[j]) hc2 hr2, fun i v hi => ?_⟩
  have e3 : k44.sz = 3 := rfl
  rw [e3, ha]
  match i, hi with
  | 0, hi => simp only [List.getElem?_cons_zero, Option.some.injEq] at hi; subst hi; exact h1
  | 1, hi => simp only [List.getElem?_cons_succ, List.getElem?_cons_zero, Option.some.injEq] at hi; subst hi; exact h2
  | 2, hi => simp only [List.getElem?_cons_succ, List.getElem?_cons_zero, Option.some.injEq] at hi; subst hi; exact h3
  | n + 3, hi => simp at hi

/-- One more. -/
theorem NRow.push {w w' : World} {B : Nat} {v v' : Value} {us : List Value} {lw : List WItem} {x : WItem} {u : Value} (h : NRow w B v us lw) (ho : w'.ownsRow B 44 3 v' (lw.length + 1) (ncells lw us ++ [.string x.id, .string x.text, u]))
    (hk : ∀ b, (∃ u ∈ us, u.ownBlock = some b) → w'.heap[b]? = w.heap[b]?) (hu : w'.ownsRow B 9 1 u (srt x.miss).length ((srt x.miss).map Value.string)) : NRow w' B v' (us ++ [u]) (lw ++ [x]) := by
  refine ⟨by simp [h.1], by rw [ncells_snoc x u h.1, List.length_append]; exact ho, fun i y u' hi hu' => ?_⟩
  by_cases e : i < lw.length
  · rw [List.getElem?_append_left e] at hi
    rw [List.getElem?_append_left (by rw [h.1]; exact e)] at hu'
    exact ownsRow_move (h.2.2 i y u' hi hu') fun b hb => hk b ⟨u', List.mem_of_getElem? hu', hb⟩
  · rw [List.getElem?_append_right (by omega)] at hi
    rw [List.getElem?_append_right (by rw [h.1]; omega)] at hu'
    have hi0 : i - lw.length = 0 := by have := (List.getElem?_eq_some_iff.1 hi).1; simp at this; omega
    rw [h.1, hi0] at hu'
    rw [hi0] at hi
    cases hi
    cases hu'
    exact hu

/-- What holds between two rounds. -/
def PlRel (w wr : World) (p : Nat) (places : Int) (v : Value) (lw : List WItem) : Prop :=
  ∃ us, NRow wr w.heap.size v us lw ∧ WRep wr (fun b => w.heap.size ≤ b ∧ b < wr.heap.size ∧ ¬ NBlk v us b) p places lw ∧ Below w.heap.size w wr

theorem PlRel.below {w wr : World} {p : Nat} {places : Int} {v : Value} {lw : List WItem} (h : PlRel w wr p places v lw) : Below w.heap.size w wr := by
  obtain ⟨_, _, _, hb⟩ := h
  exact hb

theorem PlRel.keep {w wr w' : World} {p : Nat} {places : Int} {v : Value} {lw : List WItem} (h : PlRel w wr p places v lw) (hb : Below wr.heap.size wr w') : PlRel w w' p places v lw := by
  obtain ⟨us, h1, h2, h3⟩ := h
  have hz := hb.size
  exact ⟨us, h1.below hb, (h2.below hb).move_F fun b hb' => ⟨hb'.1, by omega, hb'.2.2⟩, h3.trans (hb.mono h3.size)⟩

theorem same_true {w : World} {A B : Option Addr} {c d : Nat} {a : List ByteArray} (hr : Kd.C Kd.string w A a.length a) (hc : a.length ≤ c) (hr2 : Kd.C Kd.string w B a.length a) (hd : a.length ≤ d) (hl : a.length ≤ 1000000) :
    Calls Try.prog 18 #[.slice A a.length c, .slice B a.length d] w fun e w' => e = .returned (.bool true) ∧ Below w.heap.size w w' := by
  refine (same_calls hr hc hr2 hd hl).mono ?_
  rintro e w' ⟨rfl, h⟩
  exact ⟨by rw [decide_eq_true rfl], h.below⟩

theorem own_below {w w' : World} {base : Nat} {e : TypeId} {size n : Nat} {v : Value} {xs : List Value} (h : w.ownsRow base e size v n xs) (hb : Below w.heap.size w w') : w'.ownsRow base e size v n xs :=
  ownsRow_move h fun b hk => hb.block b (h.lt b hk).2

theorem box4 {w : World} {b : Nat} {x y z u : Value} {t : TypeId} (h : w.heap[b]? = some (.cells #[x, y, z, u] t)) : w.cell? ⟨b, 0, none⟩ = some x ∧ w.cell? ⟨b, 1, none⟩ = some y ∧ w.cell? ⟨b, 2, none⟩ = some z ∧ w.cell? ⟨b, 3, none⟩ = some u := by
  refine ⟨by simp [World.cell?, h], by simp [World.cell?, h], by simp [World.cell?, h], by simp [World.cell?, h]⟩

/-- Behind a call on the room: the law's row stands. -/
theorem NRow.after {w wb w4 : World} {B G p : Nat} {places : Int} {v : Value} {us : List Value} {lw lw' : List WItem} (hn : NRow wb B v us lw) (hf : Fr (fun b => B ≤ b ∧ b < G ∧ ¬ NBlk v us b) wb w4)
    (hr : WRep w4 (fun b => (B ≤ b ∧ b < G ∧ ¬ NBlk v us b) ∨ (wb.heap.size ≤ b ∧ b < w4.heap.size)) p places lw') (hG : G ≤ wb.heap.size) (hw : w.heap.size = B) (hB : Below B w wb) :
    NRow w4 B v us lw ∧ WRep w4 (fun b => B ≤ b ∧ b < w4.heap.size ∧ ¬ NBlk v us b) p places lw' ∧ Below B w w4 := by
  have hz := hf.size
  have hz0 := hB.size
  refine ⟨hn.fr hf fun b hb hc => hc.2.2 hb, hr.move_F fun b hb => ?_, ?_⟩
  · rcases hb with ⟨h1, h2, h3⟩ | ⟨h1, h2⟩
    · exact ⟨h1, by omega, h3⟩
    · exact ⟨by omega, h2, fun hb => by have := (hn.lt hb).2; omega⟩
  · exact hB.trans (hf.to_below (by omega) fun b hb hc => by omega)

theorem PlRel.push {w w4 w6 w7 : World} {p : Nat} {places : Int} {v v' u : Value} {us : List Value} {lw : List WItem} {x : WItem} {o : Obj} (hn : NRow w4 w.heap.size v us lw)
    (hr : WRep w4 (fun b => w.heap.size ≤ b ∧ b < w4.heap.size ∧ ¬ NBlk v us b) p places (lw ++ [x])) (hB : Below w.heap.size w w4) (h6 : Below w4.heap.size w4 w6)
    (hu : w6.ownsRow w4.heap.size 9 1 u (srt x.miss).length ((srt x.miss).map Value.string))
    (hown : w7.ownsRow w.heap.size 44 3 v' (lw.length + 1) (ncells lw us ++ [.string x.id, .string x.text, u])) (hg : (w6.alloc o).grownBy w7 v.ownBlock)
    (hat : v'.ownBlock = v.ownBlock ∨ v'.ownBlock = some (w6.alloc o).heap.size) : PlRel w w7 p places v' (lw ++ [x]) := by
  have z4 := hB.size
  have z6 := h6.size
  have z7 := hg.size
  rw [asz] at z7
  have keep : ∀ b, b < w4.heap.size → some b ≠ v.ownBlock → w7.heap[b]? = w4.heap[b]? := fun b hb hne => by
    rw [hg.block b (by rw [asz]; omega) hne, Below.heap_alloc _ _ _ (by omega), h6.block b hb]
  have hne : ∀ b, (∃ u ∈ us, u.ownBlock = some b) → some b ≠ v.ownBlock := fun b ⟨u', hu', hb⟩ => by
    obtain ⟨i, hi⟩ := List.getElem?_of_mem hu'
    have hl : i < lw.length := by rw [← hn.1]; exact (List.getElem?_eq_some_iff.1 hi).1
    exact own_ne (hn.2.2 i lw[i] u' (List.getElem?_eq_getElem hl) hi) hn.2.1 (by decide) hb
  have hu7 : w7.ownsRow w.heap.size 9 1 u (srt x.miss).length ((srt x.miss).map Value.string) := by
    refine ownsRow_weaken (ownsRow_move hu fun b hb => ?_) z4
    have hl := hu.lt b hb
    have hvb : some b ≠ v.ownBlock := fun e => by have := (hn.lt (.inl e.symm)).2; omega
    rw [hg.block b (by rw [asz]; omega) hvb, Below.heap_alloc _ _ _ hl.2]
  refine ⟨us ++ [u], hn.push hown (fun b hb => keep b (hn.lt (.inr hb)).2 (hne b hb)) hu7, ?_, ?_⟩
  · refine (hr.move fun b hb hlt => keep b hlt fun e => hb.2.2 (.inl e.symm)).move_F fun b hb => ⟨hb.1, by omega, fun hnb => ?_⟩
    rcases hnb with h | ⟨u', hu', h⟩
    · rcases hat with e | e
      · exact hb.2.2 (.inl (e ▸ h))
      · rw [e, asz] at h
        cases h
        omega
    · rcases List.mem_append.1 hu' with hu' | hu'
      · exact hb.2.2 (.inr ⟨u', hu', h⟩)
      · rw [List.mem_singleton.1 hu'] at h
        have := (hu.lt b h).1
        omega
  · exact ((((Fr.of_below (S := fun _ => False) (hB.trans (h6.mono z4))).alloc o).grown hg fun b hb => .inl (hn.lt (.inl hb)).1)).to_below (Nat.le_refl _) fun _ _ h => h

theorem keep3 {x y : World} {g : Nat} {u1 u2 u3 : Value} (h1 : x.cell? ⟨g, 1, none⟩ = some u1) (h2 : x.cell? ⟨g, 2, none⟩ = some u2) (h3 : x.cell? ⟨g, 3, none⟩ = some u3) (hb : Below x.heap.size x y) :
    y.cell? ⟨g, 1, none⟩ = some u1 ∧ y.cell? ⟨g, 2, none⟩ = some u2 ∧ y.cell? ⟨g, 3, none⟩ = some u3 :=
  ⟨(hb.cell (World.block_lt_of_cell? _ _ h1)).trans h1, (hb.cell (World.block_lt_of_cell? _ _ h2)).trans h2, (hb.cell (World.block_lt_of_cell? _ _ h3)).trans h3⟩

theorem keepG {x y : World} {g : Nat} {u1 u2 u3 : Value} {o : Obj} {row : Option Nat} (h1 : x.cell? ⟨g, 1, none⟩ = some u1) (h2 : x.cell? ⟨g, 2, none⟩ = some u2) (h3 : x.cell? ⟨g, 3, none⟩ = some u3) (hg : (x.alloc o).grownBy y row) (hne : some g ≠ row) :
    y.cell? ⟨g, 1, none⟩ = some u1 ∧ y.cell? ⟨g, 2, none⟩ = some u2 ∧ y.cell? ⟨g, 3, none⟩ = some u3 := by
  have hl : g < x.heap.size := World.block_lt_of_cell? _ _ h1
  have e : y.heap[g]? = x.heap[g]? := by rw [hg.block g (by rw [asz]; omega) hne, Below.heap_alloc _ _ _ hl]
  exact ⟨(World.cell?_of_block e).trans h1, (World.cell?_of_block e).trans h2, (World.cell?_of_block e).trans h3⟩

theorem NRow.weaken {w : World} {B B' : Nat} {v : Value} {us : List Value} {lw : List WItem} (h : NRow w B v us lw) (hb : B' ≤ B) : NRow w B' v us lw :=
  ⟨h.1, ownsRow_weaken h.2.1 hb, fun i x u hi hu => ownsRow_weaken (h.2.2 i x u hi hu) hb⟩

/-- What stands behind 'x := now[k]; x.missing = without(..)'. -/
theorem come_block {wl w5 : World} {o1 : Obj} {a : Addr} {val : Value} (h5 : Below (wl.alloc o1).heap.size (wl.alloc o1) w5) (ha : a.block = wl.heap.size) {b : Nat} (hb : b < wl.heap.size) : (w5.setCell a val).heap[b]? = wl.heap[b]? := by
  rw [Below.heap_setCell _ _ _ _ (by omega), h5.block b (by rw [asz]; omega), Below.heap_alloc _ _ _ hb]

theorem come_frame {w4 wl w5 : World} {o1 : Obj} {a : Addr} {val : Value} (h4 : Below w4.heap.size w4 wl) (h5 : Below (wl.alloc o1).heap.size (wl.alloc o1) w5) (ha : a.block = wl.heap.size) : Below w4.heap.size w4 (w5.setCell a val) := by
  have z := h4.size
  have hb : Below w4.heap.size w4 w5 := (h4.alloc z o1).trans (h5.mono (by rw [asz]; omega))
  exact ((Fr.of_below (S := fun _ => False) hb).setCell (.inl (by omega)) val).to_below (Nat.le_refl _) fun _ _ h => h

theorem come_push {wl w5 w7 : World} {B : Nat} {vl v' u val : Value} {usl : List Value} {ls : List WItem} {x : WItem} {o1 o2 : Obj} {a : Addr} (hn : NRow wl B vl usl ls) (h5 : Below (wl.alloc o1).heap.size (wl.alloc o1) w5) (ha : a.block = wl.heap.size) (hB : B ≤ wl.heap.size)
    (hu : w5.ownsRow (wl.alloc o1).heap.size 9 1 u (srt x.miss).length ((srt x.miss).map Value.string))
    (hown : w7.ownsRow B 44 3 v' (ls.length + 1) (ncells ls usl ++ [.string x.id, .string x.text, u])) (hg : ((w5.setCell a val).alloc o2).grownBy w7 vl.ownBlock) : NRow w7 B v' (usl ++ [u]) (ls ++ [x]) := by
  have z1 : (wl.alloc o1).heap.size = wl.heap.size + 1 := asz _ _
  have z5 := h5.size
  have zs : (w5.setCell a val).heap.size = w5.heap.size := by simp [World.setCell]
  have keep : ∀ b, b < w5.heap.size → some b ≠ vl.ownBlock → w7.heap[b]? = (w5.setCell a val).heap[b]? := fun b hb hne => by
    rw [hg.block b (by rw [asz, zs]; omega) hne, Below.heap_alloc _ _ _ (by rw [zs]; exact hb)]
  refine hn.push hown (fun b hb => ?_) ?_
  · obtain ⟨u', hu', hbb⟩ := hb
    obtain ⟨i, hi⟩ := List.getElem?_of_mem hu'
    have hl : i < ls.length := by rw [← hn.1]; exact (List.getElem?_eq_some_iff.1 hi).1
    have hlt := (hn.lt (.inr ⟨u', hu', hbb⟩)).2
    rw [keep b (by omega) (own_ne (hn.2.2 i ls[i] u' (List.getElem?_eq_getElem hl) hi) hn.2.1 (by decide) hbb)]
    exact come_block h5 ha hlt
  · refine ownsRow_weaken (ownsRow_move hu fun b hb => ?_) (by omega)
    have hl := hu.lt b hb
    rw [keep b hl.2 (fun e => by have := (hn.lt (.inl e.symm)).2; omega), Below.heap_setCell _ _ _ _ (by omega)]

theorem box3f {w : World} {b : Nat} {x y z : Value} {t : TypeId} (h : w.heap[b]? = some (.cells #[x, y, z] t)) : w.frozen? ⟨b, 2, none⟩ = false ∧ ∀ v, (w.setCell ⟨b, 2, none⟩ v).heap[b]? = some (.cells #[x, y, v] t) := by
  exact ⟨by simp [World.frozen?, h], fun v => setCell_row v h⟩

theorem addk' (g o j : Nat) : (⟨g, o, none⟩ : Addr).add j = ⟨g, o + j, none⟩ := by unfold Addr.add; split <;> simp_all

theorem add0 (g j : Nat) : (⟨g, 0, none⟩ : Addr).add j = ⟨g, j, none⟩ := by unfold Addr.add; split <;> simp_all

theorem ncells_erase : ∀ {l : List WItem} {us : List Value} {i : Nat}, us.length = l.length → i < l.length → ncells (l.eraseIdx i) (us.eraseIdx i) = (ncells l us).take (i * 3) ++ (ncells l us).drop ((i + 1) * 3)
  | [], _, i, _, h => by simp at h
  | _ :: _, [], _, h, _ => by simp at h
  | x :: l, u :: us, 0, _, _ => by simp [ncells]
  | x :: l, u :: us, i + 1, h, hi => by
    simp only [List.length_cons, Nat.add_right_cancel_iff] at h
    simp only [List.length_cons, Nat.add_lt_add_iff_right] at hi
    have ih := ncells_erase h hi
    rw [List.eraseIdx_cons_succ, List.eraseIdx_cons_succ]
    simp only [ncells]
    rw [ih, show (i + 1 + 1) * 3 = (i + 1) * 3 + 1 + 1 + 1 by omega]
    simp only [List.drop_succ_cons]
    rw [show (i + 1) * 3 = i * 3 + 1 + 1 + 1 by omega]
    simp only [List.take_succ_cons, List.cons_append]

theorem PlRel.erase {w w4 w6 : World} {p : Nat} {places : Int} {v v6 : Value} {us : List Value} {lw : List WItem} {i m : Nat} (hn : NRow w4 w.heap.size v us lw)
    (hr : WRep w4 (fun b => w.heap.size ≤ b ∧ b < w4.heap.size ∧ ¬ NBlk v us b) p places (lw.eraseIdx i)) (hB : Below w.heap.size w w4) (hi : i < lw.length) (h6 : Below w4.heap.size w4 w6)
    (ho : w6.ownsRow w4.heap.size 44 3 v6 m ((ncells lw us).take (i * 3) ++ (ncells lw us).drop ((i + 1) * 3))) (hm : m = lw.length - 1) : PlRel w w6 p places v6 (lw.eraseIdx i) := by
  have z4 := hB.size
  have z6 := h6.size
  have hle : (lw.eraseIdx i).length = lw.length - 1 := by rw [List.length_eraseIdx]; simp [hi]
  have hue : (us.eraseIdx i).length = (lw.eraseIdx i).length := by rw [List.length_eraseIdx, hn.1, if_pos hi, hle]
  have hsub : ∀ b, (∃ u ∈ us.eraseIdx i, u.ownBlock = some b) → NBlk v us b := fun b ⟨u, hu, hb⟩ => .inr ⟨u, List.mem_of_mem_eraseIdx hu, hb⟩
  refine ⟨us.eraseIdx i, ⟨hue, ?_, fun j x u hj hu => ?_⟩, ?_, hB.trans (h6.mono z4)⟩
  · rw [ncells_erase hn.1 hi, hle, ← hm]
    exact ownsRow_weaken ho z4
  · rw [List.getElem?_eraseIdx] at hj hu
    have : w4.ownsRow w.heap.size 9 1 u (srt x.miss).length ((srt x.miss).map Value.string) := by
      split at hj
      · rename_i hlt
        rw [if_pos hlt] at hu
        exact hn.2.2 _ _ _ hj hu
      · rename_i hlt
        rw [if_neg hlt] at hu
        exact hn.2.2 _ _ _ hj hu
    exact own_below this h6
  · refine (hr.below h6).move_F fun b hb => ⟨hb.1, by omega, fun hnb => ?_⟩
    rcases hnb with h | h
    · have := (ho.lt b h).1
      omega
    · exact hb.2.2 (hsub b h)

theorem ncells_one : ∀ {l : List WItem} {us : List Value}, (∀ u ∈ us, u.oneCell' = true) → ∀ u ∈ ncells l us, u.oneCell' = true
  | [], _, _, u, h => by simp [ncells] at h
  | _ :: _, [], _, u, h => by simp [ncells] at h
  | x :: l, v :: us, hv, u, h => by
    simp only [ncells, List.mem_cons] at h
    rcases h with rfl | rfl | rfl | h
    · rfl
    · rfl
    · exact hv _ (by simp)
    · exact ncells_one (fun u hu => hv u (by simp [hu])) u h

theorem own_empty (w : World) (e : TypeId) (size : Nat) : (w.alloc (.cells #[] e)).drew.ownsRow w.heap.size e size (.slice (some ⟨w.heap.size, 0, none⟩) 0 0) 0 [] :=
  ownsRow_move (World.ownsRow_made w #[] 0 (Nat.le_refl _) (Nat.zero_le _) (by simp)) fun _ _ => rfl

theorem drop_block {w4 w5 : World} {o : Obj} {g : Nat} (h : ((w4.alloc o).drew).grownBy w5 (some w4.heap.size)) (hg : g < w4.heap.size) : w5.heap[g]? = w4.heap[g]? := by
  rw [h.block g (by show g < (w4.alloc o).heap.size; rw [asz]; omega) (fun e => by cases e; omega)]
  exact Below.heap_alloc _ _ _ hg

theorem drop_size {w4 w5 : World} {o : Obj} {row : Option Nat} (h : ((w4.alloc o).drew).grownBy w5 row) : w4.heap.size ≤ w5.heap.size := by
  have h1 : (w4.alloc o).heap.size ≤ w5.heap.size := h.size
  rw [asz] at h1
  omega

def GoodW (lw : List WItem) : Prop := ∀ x ∈ lw, x.miss.length ≤ 60 ∧ ∀ s ∈ x.miss, s.size ≤ maxLen

theorem GoodW.push {lw : List WItem} (h : GoodW lw) {x : WItem} (h1 : x.miss.length ≤ 60) (h2 : ∀ s ∈ x.miss, s.size ≤ maxLen) : GoodW (lw ++ [x]) := fun y hy => by
  rcases List.mem_append.1 hy with hy | hy
  · exact h y hy
  · rw [List.mem_singleton.1 hy]
    exact ⟨h1, h2⟩

/-- A cell kept, behind a call that writes nothing elder. -/
theorem keepB {wc x y : World} {g j : Nat} {u : Value} (h1 : x.cell? ⟨g, j, none⟩ = some u) (h2 : Below wc.heap.size wc x) (hb : Below x.heap.size x y) : y.cell? ⟨g, j, none⟩ = some u ∧ Below wc.heap.size wc y :=
  ⟨(hb.cell (World.block_lt_of_cell? _ _ h1)).trans h1, h2.trans (hb.mono h2.size)⟩


theorem info_oneL : (Try.prog.info? 44).map (fun i => (i.zero, i.size, i.bytes)) = some (some (.agg #[.string ⟨#[]⟩, .string ⟨#[]⟩, .slice none 0 0]), 3, 56) := by kernel_rfl

end Go.Proofs.Ytaecjkffemmpcaa
