/- Walks of package wait: Come. -/
import Derived.Test.YtaecjkffemmpcaaW3
import Derived.Test.YtaecjkffemmpcaaPur2
namespace Go.Proofs.Ytaecjkffemmpcaa
open Go.RowKit Go.Proofs.YtaecjkffemmpcaaW.PrintWords

theorem mdel_mset (id : ByteArray) (m : List ByteArray) : mdel (mset m) id = mset (strip id m) := by
  simp [mdel, mset, strip, List.filter_map, Function.comp_def]

def stay (id : ByteArray) (x : WItem) : Option WItem := if (strip id x.miss).isEmpty then none else some { x with miss := strip id x.miss }
def goes (id : ByteArray) (x : WItem) : Option (ByteArray × ByteArray) := if (strip id x.miss).isEmpty then some (x.id, x.text) else none

def cell3 (q : WItem × Nat) : List Value := [.string q.1.id, .string q.1.text, .map (some q.2)]
def cell2 (q : ByteArray × ByteArray) : List Value := [.string q.1, .string q.2]

theorem wcells_zip : ∀ (l : List WItem) (rs : List Nat), wcells l rs = (l.zip rs).flatMap cell3
  | [], _ => rfl
  | _ :: _, [] => rfl
  | x :: l, r :: rs => by simp [wcells, cell3, wcells_zip l rs]

def stay2 (id : ByteArray) (q : WItem × Nat) : Option (WItem × Nat) := (stay id q.1).map (·, q.2)
def goes2 (id : ByteArray) (q : WItem × Nat) : Option (ByteArray × ByteArray) := goes id q.1

theorem zip_fst {l : List WItem} {rs : List Nat} (h : rs.length = l.length) : (l.zip rs).map (·.1) = l := List.map_fst_zip (by omega)
theorem zip_snd {l : List WItem} {rs : List Nat} (h : rs.length = l.length) : (l.zip rs).map (·.2) = rs := List.map_snd_zip (by omega)

theorem stay2_fst (id : ByteArray) (ps : List (WItem × Nat)) : (ps.filterMap (stay2 id)).map (·.1) = (ps.map (·.1)).filterMap (stay id) := by
  induction ps with
  | nil => rfl
  | cons q ps ih =>
    simp only [List.filterMap_cons, List.map_cons]
    cases h : stay id q.1 <;> simp [stay2, h] <;> simpa [stay2] using ih

theorem stay2_mem {id : ByteArray} {ps : List (WItem × Nat)} {q : WItem × Nat} (h : q ∈ ps.filterMap (stay2 id)) : ∃ q0 ∈ ps, stay id q0.1 = some q.1 ∧ q0.2 = q.2 := by
  obtain ⟨q0, h0, h1⟩ := List.mem_filterMap.1 h
  refine ⟨q0, h0, ?_⟩
  unfold stay2 at h1
  cases hs : stay id q0.1 with
  | none => rw [hs] at h1; cases h1
  | some y => rw [hs] at h1; cases h1; exact ⟨rfl, rfl⟩

theorem stay2_nodup {id : ByteArray} : ∀ {ps : List (WItem × Nat)}, (ps.map (·.2)).Nodup → ((ps.filterMap (stay2 id)).map (·.2)).Nodup
  | [], _ => by simp
  | q :: ps, h => by
    simp only [List.map_cons, List.nodup_cons] at h
    simp only [List.filterMap_cons]
    cases hq : stay2 id q with
    | none => exact stay2_nodup h.2
    | some q' =>
      simp only [List.map_cons, List.nodup_cons]
      refine ⟨fun hm => h.1 ?_, stay2_nodup h.2⟩
      obtain ⟨q1, h1, e1⟩ := List.mem_map.1 hm
      obtain ⟨q0, h0, _, e0⟩ := stay2_mem h1
      have e2 : q'.2 = q.2 := by
        unfold stay2 at hq
        cases hs : stay id q.1 with
        | none => rw [hs] at hq; cases hq
        | some y => rw [hs] at hq; cases hq; rfl
      exact List.mem_map.2 ⟨q0, h0, by rw [e0, e1, e2]⟩

theorem take_filterMap {α β : Type} (f : α → Option β) {ps : List α} {k : Nat} (h : k < ps.length) : (ps.take (k + 1)).filterMap f = (ps.take k).filterMap f ++ (f ps[k]).toList := by
  rw [List.take_succ_eq_append_getElem h, List.filterMap_append]
  cases hf : f ps[k] <;> simp [hf]

theorem box_after {wr w2 : World} {cs : Array Value} {t : TypeId} {r : Nat} (hg : (wr.alloc (.cells cs t)).grownBy w2 (some r)) (hr : r < wr.heap.size) : w2.heap[wr.heap.size]? = some (.cells cs t) := by
  rw [hg.block wr.heap.size (by simp) (by simp; omega)]
  exact heap_alloc_new wr _

theorem box3 {w : World} {b : Nat} {x y z : Value} {t : TypeId} (h : w.heap[b]? = some (.cells #[x, y, z] t)) : w.cell? ⟨b, 0, none⟩ = some x ∧ w.cell? ⟨b, 1, none⟩ = some y ∧ w.cell? ⟨b, 2, none⟩ = some z := by
  refine ⟨by simp [World.cell?, h], by simp [World.cell?, h], by simp [World.cell?, h]⟩

theorem info_got : (Try.prog.info? 46).map (fun i => (i.zero, i.size, i.bytes)) = some (some (.agg #[.string ⟨#[]⟩, .string ⟨#[]⟩]), 2, 32) := by kernel_rfl

/-- What holds between two rounds of Come. -/
def ComeInv (w wr : World) (ps : List (WItem × Nat)) (id : ByteArray) (k : Nat) (vo vl : Value) : Prop :=
  wr.ownsRow w.heap.size 46 2 vo ((ps.take k).filterMap (goes2 id)).length (((ps.take k).filterMap (goes2 id)).flatMap cell2) ∧
  wr.ownsRow w.heap.size 57 3 vl ((ps.take k).filterMap (stay2 id)).length (((ps.take k).filterMap (stay2 id)).flatMap cell3) ∧
  (∀ (i : Nat) (q : WItem × Nat), ps[i]? = some q → MapL wr q.2 (mset (if i < k then strip id q.1.miss else q.1.miss))) ∧
  Fr (fun b => b ∈ ps.map (·.2)) w wr

theorem ComeInv.size {w wr : World} {ps : List (WItem × Nat)} {id : ByteArray} {k : Nat} {vo vl : Value} (h : ComeInv w wr ps id k vo vl) : w.heap.size ≤ wr.heap.size := h.2.2.2.size

theorem own_kind {w : World} {base : Nat} {e : TypeId} {size n : Nat} {v : Value} {xs : List Value} (h : w.ownsRow base e size v n xs) {g : Nat} (hg : v.ownBlock = some g) : ∃ cur, w.heap[g]? = some (.cells cur e (0, 0)) := by
  rcases h.2 with ⟨rfl, _⟩ | ⟨g', cap, cur, rfl, _, hh, _⟩
  · cases hg
  · cases hg; exact ⟨cur, hh⟩

theorem own_ne {w : World} {b1 b2 : Nat} {e1 e2 : TypeId} {s1 s2 n1 n2 : Nat} {v1 v2 : Value} {x1 x2 : List Value} (h1 : w.ownsRow b1 e1 s1 v1 n1 x1) (h2 : w.ownsRow b2 e2 s2 v2 n2 x2) (he : e1 ≠ e2) {g : Nat} (hg : v1.ownBlock = some g) : some g ≠ v2.ownBlock := fun e => by
  obtain ⟨c1, h1⟩ := own_kind h1 hg
  obtain ⟨c2, h2⟩ := own_kind h2 e.symm
  rw [h1] at h2
  cases h2
  exact he rfl

theorem own_ne_map {w : World} {b1 : Nat} {e1 : TypeId} {s1 n1 : Nat} {v1 : Value} {x1 : List Value} (h1 : w.ownsRow b1 e1 s1 v1 n1 x1) {r : Nat} {m : List (ByteArray × Value)} (hm : MapL w r m) : some r ≠ v1.ownBlock := fun e => by
  obtain ⟨c1, h1⟩ := own_kind h1 e.symm
  exact hm.not_cells h1

/-- A row of the call's own, past a new block and the turn of a map. -/
theorem own_past {w w2 : World} {b1 : Nat} {e1 : TypeId} {s1 n1 : Nat} {v1 : Value} {x1 : List Value} (h1 : w.ownsRow b1 e1 s1 v1 n1 x1) {r : Nat} {m : List (ByteArray × Value)} (hm : MapL w r m) {o : Obj} (hg : (w.alloc o).grownBy w2 (some r)) : w2.ownsRow b1 e1 s1 v1 n1 x1 := by
  refine ownsRow_move h1 fun k hk => ?_
  have hlt := (h1.lt k hk).2
  rw [hg.block k (by simp; omega) (fun e => own_ne_map h1 hm (by rw [hk, e])), Below.heap_alloc _ _ _ hlt]

theorem own_slice {w : World} {base : Nat} {e : TypeId} {size n : Nat} {v : Value} {xs : List Value} (h : w.ownsRow base e size v n xs) : ∃ A c, v = .slice A n c ∧ n ≤ c := by
  rcases h.2 with ⟨rfl, h0⟩ | ⟨g, cap, cur, rfl, _, _, h1, _⟩
  · exact ⟨none, 0, by rw [h0], by omega⟩
  · exact ⟨_, _, rfl, h1⟩

theorem ownsRow_weaken {w : World} {base base' : Nat} {e : TypeId} {size n : Nat} {v : Value} {xs : List Value} (h : w.ownsRow base e size v n xs) (hb : base' ≤ base) : w.ownsRow base' e size v n xs := by
  refine ⟨h.1, ?_⟩
  rcases h.2 with h0 | ⟨g, cap, cur, h1, h2, h3⟩
  · exact .inl h0
  · exact .inr ⟨g, cap, cur, h1, Nat.le_trans hb h2, h3⟩

theorem len_le {α β : Type} (f : α → Option β) (ps : List α) (k : Nat) : ((ps.take k).filterMap f).length ≤ ps.length :=
  Nat.le_trans (List.length_filterMap_le _ _) (by simp; omega)

theorem nodup_idx {α : Type} {l : List α} (h : l.Nodup) {i j : Nat} {x : α} (hi : l[i]? = some x) (hj : l[j]? = some x) : i = j := by
  obtain ⟨hi, ei⟩ := List.getElem?_eq_some_iff.1 hi
  obtain ⟨hj, ej⟩ := List.getElem?_eq_some_iff.1 hj
  rcases Nat.lt_trichotomy i j with h1 | h1 | h1
  · exact absurd (ei.trans ej.symm) (List.pairwise_iff_getElem.1 h i j hi hj h1)
  · exact h1
  · exact absurd (ej.trans ei.symm) (List.pairwise_iff_getElem.1 h j i hj hi h1)

/-- The round's last part: something has been appended to one of the two rows. -/
theorem ComeInv.rest {w wr w2 w3 : World} {ps : List (WItem × Nat)} {id : ByteArray} {k : Nat} {vo vl : Value} {o1 o2 : Obj} {row : Option Nat} (h : ComeInv w wr ps id k vo vl) (hk : k < ps.length) (hnd : (ps.map (·.2)).Nodup)
    (hg2 : (wr.alloc o1).grownBy w2 (some ps[k].2)) (hm2 : MapL w2 ps[k].2 (mset (strip id ps[k].1.miss))) (hg3 : (w2.alloc o2).grownBy w3 row)
    (hrowb : ∀ g, row = some g → w.heap.size ≤ g ∧ ∃ cur t, w2.heap[g]? = some (.cells cur t (0, 0))) :
    (∀ (i : Nat) (q : WItem × Nat), ps[i]? = some q → MapL w3 q.2 (mset (if i < k + 1 then strip id q.1.miss else q.1.miss))) ∧ Fr (fun b => b ∈ ps.map (·.2)) w w3 := by
  obtain ⟨ho, hl, hmap, hfr⟩ := h
  have hmem : ps[k].2 ∈ ps.map (·.2) := List.mem_map.2 ⟨ps[k], List.getElem_mem hk, rfl⟩
  refine ⟨?_, (((hfr.alloc o1).grown hg2 (fun g e => by cases e; exact .inr hmem)).alloc o2).grown hg3 (fun g e => .inl (hrowb g e).1)⟩
  intro i q hi
  have hmi := hmap i q hi
  have key : MapL w2 q.2 (mset (if i < k + 1 then strip id q.1.miss else q.1.miss)) := by
    by_cases e : i = k
    · subst e
      rw [List.getElem?_eq_getElem hk] at hi
      cases hi
      rw [if_pos (Nat.lt_succ_self _)]
      exact hm2
    · have e1 : (if i < k + 1 then strip id q.1.miss else q.1.miss) = (if i < k then strip id q.1.miss else q.1.miss) := by
        by_cases h1 : i < k
        · rw [if_pos h1, if_pos (by omega)]
        · rw [if_neg h1, if_neg (by omega)]
      rw [e1]
      refine hmi.move ?_
      have hne : q.2 ≠ ps[k].2 := fun e2 => e (nodup_idx hnd (x := q.2) (by simp [hi]) (by simp [List.getElem?_eq_getElem hk, e2]))
      rw [hg2.block q.2 (by simp; exact Nat.lt_succ_of_lt hmi.lt) (fun e3 => hne (Option.some.inj e3)), Below.heap_alloc _ _ _ hmi.lt]
  refine key.move ?_
  have hlt := key.lt
  rw [hg3.block q.2 (by simp; omega) (fun e => by obtain ⟨_, cur, t, hc⟩ := hrowb q.2 e.symm; exact key.not_cells hc), Below.heap_alloc _ _ _ hlt]

theorem own_other {w2 w3 : World} {o2 : Obj} {row : Option Nat} (hg3 : (w2.alloc o2).grownBy w3 row) {b e s n : Nat} {v : Value} {xs : List Value} (hv : w2.ownsRow b e s v n xs) (hne : ∀ g, v.ownBlock = some g → some g ≠ row) : w3.ownsRow b e s v n xs := by
  refine ownsRow_move hv fun g hg => ?_
  have hlt := (hv.lt g hg).2
  rw [hg3.block g (by simp; omega) (hne g hg), Below.heap_alloc _ _ _ hlt]

theorem ComeInv.step_goes {w wr w2 w3 : World} {ps : List (WItem × Nat)} {id : ByteArray} {k : Nat} {vo vl v' : Value} {o1 o2 : Obj} (h : ComeInv w wr ps id k vo vl) (hk : k < ps.length) (hnd : (ps.map (·.2)).Nodup) (he : (strip id ps[k].1.miss).isEmpty = true)
    (hg2 : (wr.alloc o1).grownBy w2 (some ps[k].2)) (hm2 : MapL w2 ps[k].2 (mset (strip id ps[k].1.miss))) (hg3 : (w2.alloc o2).grownBy w3 vo.ownBlock)
    (hown : w3.ownsRow w.heap.size 46 2 v' (((ps.take k).filterMap (goes2 id)).length + 1) (((ps.take k).filterMap (goes2 id)).flatMap cell2 ++ [.string ps[k].1.id, .string ps[k].1.text])) :
    ComeInv w w3 ps id (k + 1) v' vl := by
  have hmk := h.2.2.1 k ps[k] (List.getElem?_eq_getElem hk)
  have ho2 := own_past h.1 hmk hg2
  have hl2 := own_past h.2.1 hmk hg2
  obtain ⟨h3, h4⟩ := h.rest hk hnd hg2 hm2 hg3 (fun g hg => by obtain ⟨c, hc⟩ := own_kind ho2 hg; exact ⟨(ho2.lt g hg).1, c, _, hc⟩)
  refine ⟨?_, ?_, h3, h4⟩
  · rw [take_filterMap _ hk, show goes2 id ps[k] = some (ps[k].1.id, ps[k].1.text) by simp [goes2, goes, he]]
    simpa [cell2] using hown
  · rw [take_filterMap _ hk, show stay2 id ps[k] = none by simp [stay2, stay, he]]
    simp only [Option.toList_none, List.append_nil]
    exact own_other hg3 hl2 fun g hg e => own_ne hl2 ho2 (by decide) hg e

theorem ComeInv.step_stay {w wr w2 w3 : World} {ps : List (WItem × Nat)} {id : ByteArray} {k : Nat} {vo vl v' : Value} {o1 o2 : Obj} (h : ComeInv w wr ps id k vo vl) (hk : k < ps.length) (hnd : (ps.map (·.2)).Nodup) (he : ¬ (strip id ps[k].1.miss).isEmpty = true)
    (hg2 : (wr.alloc o1).grownBy w2 (some ps[k].2)) (hm2 : MapL w2 ps[k].2 (mset (strip id ps[k].1.miss))) (hg3 : (w2.alloc o2).grownBy w3 vl.ownBlock)
    (hown : w3.ownsRow w.heap.size 57 3 v' (((ps.take k).filterMap (stay2 id)).length + 1) (((ps.take k).filterMap (stay2 id)).flatMap cell3 ++ [.string ps[k].1.id, .string ps[k].1.text, .map (some ps[k].2)])) :
    ComeInv w w3 ps id (k + 1) vo v' := by
  have hmk := h.2.2.1 k ps[k] (List.getElem?_eq_getElem hk)
  have ho2 := own_past h.1 hmk hg2
  have hl2 := own_past h.2.1 hmk hg2
  obtain ⟨h3, h4⟩ := h.rest hk hnd hg2 hm2 hg3 (fun g hg => by obtain ⟨c, hc⟩ := own_kind hl2 hg; exact ⟨(hl2.lt g hg).1, c, _, hc⟩)
  refine ⟨?_, ?_, h3, h4⟩
  · rw [take_filterMap _ hk, show goes2 id ps[k] = none by simp [goes2, goes, he]]
    simp only [Option.toList_none, List.append_nil]
    exact own_other hg3 ho2 fun g hg e => own_ne ho2 hl2 (by decide) hg e
  · rw [take_filterMap _ hk, show stay2 id ps[k] = some ({ ps[k].1 with miss := strip id ps[k].1.miss }, ps[k].2) by simp [stay2, stay, he]]
    simpa [cell3] using hown

theorem come_nil (id : ByteArray) (w : World) :
    Calls Try.prog 12 #[.pointer none, .string id] w fun e w' => e = .returned (.slice none 0 0) ∧ Below w.heap.size w w' := by
  go_enter Try.func12, Try.ntmps12
  go_wp2
  go_ret
  exact ⟨rfl, Below.refl _ _⟩

set_option maxHeartbeats 800000 in
theorem come_walk {w : World} {p : Nat} {A : Option Addr} {c : Nat} {places : Int} (id : ByteArray) (ps : List (WItem × Nat)) (hm : ps.length ≤ 1000)
    (h1 : w.heap[p]? = some (.cells #[.int .i64 places, .slice A ps.length c] 54))
    (hrow : ∀ (k : Nat) (q : WItem × Nat), ps[k]? = some q → ∃ g : Nat, A = some ⟨g, 0, none⟩ ∧ g < w.heap.size ∧ g ∉ ps.map (·.2) ∧ w.cell? ⟨g, k * 3, none⟩ = some (.string q.1.id) ∧ w.cell? ⟨g, k * 3 + 1, none⟩ = some (.string q.1.text) ∧ w.cell? ⟨g, k * 3 + 2, none⟩ = some (.map (some q.2)))
    (hmaps : ∀ (i : Nat) (q : WItem × Nat), ps[i]? = some q → MapL w q.2 (mset q.1.miss)) (hnd : (ps.map (·.2)).Nodup) :
    Calls Try.prog 12 #[.pointer (some ⟨p, 0, none⟩), .string id] w fun e w' => ∃ vo vl wr, e = .returned vo ∧ ComeInv w wr ps id ps.length vo vl ∧ w' = wr.setCell ⟨p, 1, none⟩ vl := by
  obtain ⟨k0, k1, kf⟩ := WRep.cell0 h1
  have hp : p < w.heap.size := (Array.getElem?_eq_some_iff.1 h1).1
  have hpr : p ∉ ps.map (·.2) := fun hmem => by
    obtain ⟨q, hq, e⟩ := List.mem_map.1 hmem
    obtain ⟨i, hi⟩ := List.getElem?_of_mem hq
    exact (hmaps i q hi).not_cells (e ▸ h1)
  have H1 := Lib.hid h1
  have HM := Lib.hid hmaps
  have HR := Lib.hid hrow
  clear h1 hmaps hrow
  go_enter Try.func12, Try.ntmps12
  go_wp2_with fail
  go_loopw [5, 6, 16] (fun vo vl i wr => ∃ k : Nat, k ≤ ps.length ∧ i = .int .i64 k ∧ ComeInv w wr ps id k vo vl) (fun _ _ i _ => ps.length - (intOf i).toNat)
  case atStart => exact ⟨0, Nat.zero_le _, rfl, World.ownsRow_nil _ _ _ _, World.ownsRow_nil _ _ _ _, fun i q hi => by simpa using HM.out i q hi, Fr.refl _ _⟩
  case round =>
    obtain ⟨k, hk, rfl, hinv⟩ := hrel
    have HI := Lib.hid hinv
    clear hinv
    have hsz := HI.out.size
    by_cases hlt : k < ps.length
    · obtain ⟨g, rfl, g1, g2, g3, g4, g5⟩ := HR.out k ps[k] (List.getElem?_eq_getElem hlt)
      obtain ⟨ho, hl, hmap, hfr⟩ := HI.out
      have j3 := (hfr.cell (p := ⟨g, k * 3, none⟩) g1 g2).trans g3
      have j4 := (hfr.cell (p := ⟨g, k * 3 + 1, none⟩) g1 g2).trans g4
      have j5 := (hfr.cell (p := ⟨g, k * 3 + 2, none⟩) g1 g2).trans g5
      have hmk := hmap k ps[k] (List.getElem?_eq_getElem hlt)
      rw [if_neg (Nat.lt_irrefl k)] at hmk
      have hrlt := hmk.lt
      have HMK := Lib.hid hmk
      have HO := Lib.hid ho
      have HL := Lib.hid hl
      have l1 := len_le (goes2 id) ps k
      have l2 := len_le (stay2 id) ps k
      clear g3 g4 g5 ho hl hmap hfr hmk
      by_cases he : (strip id ps[k].1.miss).isEmpty
      · have hlen : ((mset (strip id ps[k].1.miss)).length : Int) = 0 := by simp only [mset, List.length_map, List.isEmpty_iff.1 he]; rfl
        have hlb : (((mset (strip id ps[k].1.miss)).length : Int) == 0) = true := by simpa using hlen
        have HLEN := Lib.hid hlen
        have HE := Lib.hid he
        obtain ⟨i0, hi0, hz0, hz1, hz2⟩ := info_parts info_got
        clear hlen he
        go_wp2_with (first
          | (at_delete; refine wpList_delete_L _ rfl _ _ 55 9 rfl 4 Try.underlying55 Try.underlying9 _ _ rfl (HMK.out.alloc _) id rfl ?_; intro w2 hm2 hg2 hs2; rw [mdel_mset] at hm2; obtain ⟨x0, x1, x2⟩ := box3 (box_after hg2 hrlt); have HO2 := Lib.hid (own_past HO.out HMK.out hg2); have HM2 := Lib.hid hm2; have HG2 := Lib.hid hg2; have hs3 : w.heap.size ≤ w2.heap.size := Nat.le_trans hsz (Nat.le_trans (by simp) hg2.size); clear hm2 hg2 hs2)
          | (at_len; refine wpList_len_L _ rfl _ 55 rfl 9 4 Try.underlying55 _ _ rfl HM2.out ?_)
          | (at_builtin; refine wpList_append_own_at _ rfl (.tmp 27) (.tmp 30) 36 rfl w.heap.size 46 i0 _ 2 32 Try.underlying36 hi0 hz0 hz1 hz2 rfl (by decide) _ _ _ rfl (HO2.out.alloc _) ⟨w2.heap.size, 0, none⟩ 1 1 [.string ps[k].1.id, .string ps[k].1.text] rfl rfl (cells_new _ _ _) (by simp [Value.oneCell']) (by unfold maxLen; omega) (by omega) (Nat.le_trans hs3 (by simp)) ?_; intro v' w3 hown3 hg3 hn3 hat3))
        exact ⟨⟨k + 1, by omega, by go_num, HI.out.step_goes hlt hnd HE.out HG2.out HM2.out hg3 hown3⟩, by simp [intOf]; omega⟩
      · have hlb : (((mset (strip id ps[k].1.miss)).length : Int) == 0) = false := by
          simp only [mset, List.length_map, beq_eq_false_iff_ne, ne_eq]
          intro e
          exact he (by rw [List.isEmpty_iff]; exact List.eq_nil_of_length_eq_zero (by omega))
        have HE := Lib.hid he
        obtain ⟨i0, hi0, hz0, hz1, hz2⟩ := info_parts info_one
        clear he
        go_wp2_with (first
          | (at_delete; refine wpList_delete_L _ rfl _ _ 55 9 rfl 4 Try.underlying55 Try.underlying9 _ _ rfl (HMK.out.alloc _) id rfl ?_; intro w2 hm2 hg2 hs2; rw [mdel_mset] at hm2; obtain ⟨x0, x1, x2⟩ := box3 (box_after hg2 hrlt); have HL2 := Lib.hid (own_past HL.out HMK.out hg2); have HM2 := Lib.hid hm2; have HG2 := Lib.hid hg2; have hs3 : w.heap.size ≤ w2.heap.size := Nat.le_trans hsz (Nat.le_trans (by simp) hg2.size); clear hm2 hg2 hs2)
          | (at_len; refine wpList_len_L _ rfl _ 55 rfl 9 4 Try.underlying55 _ _ rfl HM2.out ?_)
          | (at_builtin; refine wpList_append_own_at _ rfl (.tmp 32) (.tmp 34) 52 rfl w.heap.size 57 i0 _ 3 40 Try.underlying52 hi0 hz0 hz1 hz2 rfl (by decide) _ _ _ rfl (HL2.out.alloc _) ⟨w2.heap.size, 0, none⟩ 1 1 [.string ps[k].1.id, .string ps[k].1.text, .map (some ps[k].2)] rfl rfl (cells_new _ _ _) (by simp [Value.oneCell']) (by unfold maxLen; omega) (by omega) (Nat.le_trans hs3 (by simp)) ?_; intro v' w3 hown3 hg3 hn3 hat3))
        exact ⟨⟨k + 1, by omega, by go_num, HI.out.step_stay hlt hnd HE.out HG2.out HM2.out hg3 hown3⟩, by simp [intOf]; omega⟩
    · obtain rfl : k = ps.length := by omega
      obtain ⟨ho, hl, hmap, hfr⟩ := HI.out
      rw [List.take_length] at hl
      obtain ⟨cA, cc, rfl, _⟩ := own_slice hl
      obtain ⟨c0, c1, cf⟩ := WRep.cell0 ((hfr.block p hp hpr).trans H1.out)
      have cf1 := cf 1
      clear cf ho hl hmap hfr
      go_wp2_with fail
      go_ret
      exact ⟨_, _, _, rfl, HI.out, rfl⟩

theorem flatMap3_length (ps : List (WItem × Nat)) : (ps.flatMap cell3).length = ps.length * 3 := by
  induction ps with
  | nil => rfl
  | cons q ps ih => simp [cell3, ih]; omega

/-- Come: who leaves; who stays. -/
theorem come_any {w : World} {F : Nat → Prop} {p : Nat} {places : Int} {l : List WItem} (id : ByteArray) (h : WRep w F p places l) (hm : l.length ≤ 1000) :
    Calls Try.prog 12 #[.pointer (some ⟨p, 0, none⟩), .string id] w fun e w' => ∃ vo, e = .returned vo ∧
      w'.ownsRow w.heap.size 46 2 vo (l.filterMap (goes id)).length ((l.filterMap (goes id)).flatMap cell2) ∧
      WRep w' (fun b => F b ∨ (w.heap.size ≤ b ∧ b < w'.heap.size)) p places (l.filterMap (stay id)) ∧ Fr F w w' := by
  have hp := h.lt
  obtain ⟨v, rs, h1, h2, h3, h4, h5, h6, h7⟩ := h
  have hfst := zip_fst h5
  have hsnd := zip_snd h5
  have hzl : (l.zip rs).length = l.length := by simp [h5]
  obtain ⟨A, c, rfl, hlc, hrow⟩ := WRow.of_owns h4 h5
  have hzip : ∀ (k : Nat) (q : WItem × Nat), (l.zip rs)[k]? = some q → l[k]? = some q.1 ∧ rs[k]? = some q.2 := by
    intro k q hq
    rw [List.getElem?_zip_eq_some] at hq
    exact hq
  have hF : ∀ r ∈ (l.zip rs).map (·.2), F r ∧ ∃ x, MapL w r (mset x) := by
    intro r hr
    obtain ⟨q, hq, rfl⟩ := List.mem_map.1 hr
    obtain ⟨i, hi⟩ := List.getElem?_of_mem hq
    obtain ⟨e1, e2⟩ := hzip i q hi
    exact ⟨(h7 i q.2 q.1 e2 e1).1, _, (h7 i q.2 q.1 e2 e1).2⟩
  have h1' : w.heap[p]? = some (.cells #[.int .i64 places, .slice A (l.zip rs).length c] 54) := by rw [hzl]; exact h1
  refine (come_walk id (l.zip rs) (by omega) h1' ?_ ?_ (by rw [hsnd]; exact h6)).mono ?_
  · intro k q hq
    obtain ⟨e1, e2⟩ := hzip k q hq
    obtain ⟨g, r, g0, g1, g2, g3, g4, g5⟩ := hrow k q.1 e1
    rw [e2] at g1
    cases g1
    refine ⟨g, g0, g2, fun hmem => ?_, g3, g4, g5⟩
    obtain ⟨_, x, hx⟩ := hF g hmem
    subst g0
    obtain ⟨cur, hc⟩ := own_kind h4 (g := g) rfl
    exact hx.not_cells hc
  · intro i q hq
    obtain ⟨e1, e2⟩ := hzip i q hq
    exact (h7 i q.2 q.1 e2 e1).2
  · rintro e w' ⟨vo, vl, wr, rfl, hinv, rfl⟩
    obtain ⟨ho, hl, hmap, hfr⟩ := hinv
    rw [List.take_length] at ho hl
    have hgo : (l.zip rs).filterMap (goes2 id) = l.filterMap (goes id) := by
      conv => rhs; rw [← hfst, List.filterMap_map]
      rfl
    rw [hgo] at ho
    have hst := stay2_fst id (l.zip rs)
    rw [hfst] at hst
    have hpr : p ∉ (l.zip rs).map (·.2) := fun hmem => by
      obtain ⟨_, x, hx⟩ := hF p hmem
      exact hx.not_cells h1
    have hsz : (wr.setCell ⟨p, 1, none⟩ vl).heap.size = wr.heap.size := by simp [World.setCell]
    have hvl : ∀ k, vl.ownBlock = some k → w.heap.size ≤ k ∧ k < wr.heap.size := fun k hk => hl.lt k hk
    have hll : ((l.zip rs).filterMap (stay2 id)).length = (l.filterMap (stay id)).length := by rw [← hst]; simp
    have hwc : wcells (l.filterMap (stay id)) (((l.zip rs).filterMap (stay2 id)).map (·.2)) = ((l.zip rs).filterMap (stay2 id)).flatMap cell3 := by
      rw [← hst, wcells_zip, List.zip_map', List.map_id'']
      intro x; rfl
    refine ⟨vo, rfl, ownsRow_move ho fun k hk => Below.heap_setCell _ _ _ _ (by have := (ho.lt k hk).1; show k ≠ p; omega), ⟨vl, ((l.zip rs).filterMap (stay2 id)).map (·.2), setCell_row _ ((hfr.block p hp hpr).trans h1), .inl h2, ?_, ?_, by rw [List.length_map, hll], stay2_nodup (by rw [hsnd]; exact h6), ?_⟩, ?_⟩
    · intro k hk
      have := hvl k hk
      exact ⟨.inr ⟨this.1, by rw [hsz]; exact this.2⟩, by omega⟩
    · rw [hwc, ← hll]
      refine ownsRow_weaken (ownsRow_move hl fun k hk => Below.heap_setCell _ _ _ _ (by have := (hl.lt k hk).1; show k ≠ p; omega)) (Nat.zero_le _)
    · intro i r x hi hx
      rw [← hst] at hx
      simp only [List.getElem?_map, Option.map_eq_some_iff] at hi hx
      obtain ⟨q, hq, rfl⟩ := hi
      obtain ⟨q', hq', rfl⟩ := hx
      rw [hq] at hq'
      cases hq'
      obtain ⟨q0, hq0, hs0, e0⟩ := stay2_mem (List.mem_of_getElem? hq)
      have hq0' : q.2 ∈ (l.zip rs).map (·.2) := List.mem_map.2 ⟨q0, hq0, e0⟩
      obtain ⟨i0, hi0⟩ := List.getElem?_of_mem hq0
      have hm0 := hmap i0 q0 hi0
      rw [if_pos (List.getElem?_eq_some_iff.1 hi0).1] at hm0
      have hne : q.2 ≠ p := fun e => hpr (e ▸ hq0')
      refine ⟨.inl (hF q.2 hq0').1, ?_⟩
      have e1 : q.1.miss = strip id q0.1.miss := by
        unfold stay at hs0
        split at hs0
        · cases hs0
        · rw [← Option.some.inj hs0]
      rw [e1, ← e0]
      exact hm0.move (Below.heap_setCell _ _ _ _ (by rw [e0]; exact hne))
    · exact (hfr.mono fun b _ hb => (hF b hb).1).setCell (.inr h2) _

end Go.Proofs.Ytaecjkffemmpcaa
