/- Walks of package wait: Put. -/
import Derived.Test.YtaecjkffemmpcaaW2
import Derived.Deep.CutBlock
namespace Go.Proofs.Ytaecjkffemmpcaa
open Go.RowKit Go.Proofs.YtaecjkffemmpcaaW.PrintWords

theorem put_nil (id text : ByteArray) (A : Option Addr) (n c : Nat) (w : World) :
    Calls Try.prog 9 #[.pointer none, .string id, .string text, .slice A n c] w fun e w' => e = .returned (.int .i64 1) ∧ Below w.heap.size w w' := by
  go_enter Try.func9, Try.ntmps9
  go_wp2
  go_ret
  exact ⟨rfl, Below.refl _ _⟩

theorem put_empty (p : Nat) (id text : ByteArray) (A : Option Addr) (c : Nat) (w : World) :
    Calls Try.prog 9 #[.pointer (some ⟨p, 0, none⟩), .string id, .string text, .slice A 0 c] w fun e w' => e = .returned (.int .i64 1) ∧ Below w.heap.size w w' := by
  go_enter Try.func9, Try.ntmps9
  go_wp2
  go_ret
  exact ⟨rfl, Below.refl _ _⟩

theorem put_twice {w : World} {F : Nat → Prop} {p : Nat} {places : Int} {l : List WItem} (id text : ByteArray) (A : Option Addr) (n c : Nat) (h : WRep w F p places l) (hm : l.length ≤ maxLen) (hn : 0 < n) (hi : hasIx l id = true) :
    Calls Try.prog 9 #[.pointer (some ⟨p, 0, none⟩), .string id, .string text, .slice A n c] w fun e w' => e = .returned (.int .i64 11) ∧ Below w.heap.size w w' := by
  have H := Lib.hid h
  clear h
  go_enter Try.func9, Try.ntmps9
  go_wp2_with (go_at_call 17; refine (has_any id H.out hm).mono ?_; rintro e w' ⟨rfl, hb'⟩)
  go_ret
  exact ⟨rfl, hb'⟩

theorem WRep.move {w w' : World} {F : Nat → Prop} {p : Nat} {places : Int} {l : List WItem} (h : WRep w F p places l) (hm : ∀ b, F b → b < w.heap.size → w'.heap[b]? = w.heap[b]?) : WRep w' F p places l := by
  have hp := h.lt
  obtain ⟨v, rs, h1, h2, h3, h4, h5, h6, h7⟩ := h
  refine ⟨v, rs, (hm p h2 hp).trans h1, h2, h3, ownsRow_move h4 fun k hk => hm k (h3 k hk).1 (h4.lt k hk).2, h5, h6, fun i r x hi hx => ?_⟩
  obtain ⟨h8, h9⟩ := h7 i r x hi hx
  exact ⟨h8, h9.move (hm r h8 h9.lt)⟩

theorem WRep.below {w w' : World} {F : Nat → Prop} {p : Nat} {places : Int} {l : List WItem} (h : WRep w F p places l) (hb : Below w.heap.size w w') : WRep w' F p places l :=
  h.move fun b _ hb' => hb.block b hb'

theorem WRep.drewN {w : World} {F : Nat → Prop} {p : Nat} {places : Int} {l : List WItem} (h : WRep w F p places l) (n : Nat) : WRep (w.drewN n) F p places l :=
  h.move fun _ _ _ => rfl

theorem below_drewN {B : Nat} {a w : World} (h : Below B a w) (n : Nat) : Below B a (w.drewN n) := ⟨h.os, h.tape, h.output, h.size, h.block⟩

theorem put_busy {w : World} {F : Nat → Prop} {p : Nat} {places : Int} {l : List WItem} (id text : ByteArray) (A : Option Addr) (n c : Nat) (h : WRep w F p places l) (hm : l.length ≤ maxLen) (hn : 0 < n) (hi : hasIx l id = false) (hf : places ≤ (l.length : Int)) :
    Calls Try.prog 9 #[.pointer (some ⟨p, 0, none⟩), .string id, .string text, .slice A n c] w fun e w' => e = .returned (.int .i64 8) ∧ Below w.heap.size w w' := by
  obtain ⟨k0, k1, kf⟩ : ∃ v, w.cell? ⟨p, 0, none⟩ = some (.int .i64 places) ∧ w.cell? ⟨p, 1, none⟩ = some v := by
    obtain ⟨v, rs, h1, h2⟩ := h
    exact ⟨v, (WRep.cell0 h1).1, (WRep.cell0 h1).2.1⟩
  have hp := h.lt
  have H := Lib.hid h
  clear h
  go_enter Try.func9, Try.ntmps9
  go_wp2_with (go_at_call 17; refine (has_any id H.out hm).mono ?_; rintro e w' ⟨rfl, hb'⟩; have c0 := (hb'.cell (p := ⟨p, 0, none⟩) hp).trans k1)
  go_quiet ((go_at_call 10; exact Calls.quiet_of_same ((len_any ((H.out.below hb').drewN _)).mono fun e w' h => ⟨h.1, h.2.symm⟩)))
  go_wp2_with fail
  go_ret
  exact ⟨rfl, below_drewN hb' _⟩

def addk (l : List ByteArray) (s : ByteArray) : List ByteArray := if inB l s then l else l ++ [s]
def addAll (l : List ByteArray) : List ByteArray := l.foldl addk []

theorem mput_mset (l : List ByteArray) (s : ByteArray) : mput (mset l) s (.bool true) = mset (addk l s) := by
  have h : mhas (mset l) s = inB l s := by
    rw [Bool.eq_iff_iff, mhas_iff, inB_iff]
    simp [mset, List.map_map, Function.comp_def]
  unfold mput addk
  rw [h]
  by_cases hs : inB l s = true
  · simp only [hs, if_true, mset, List.map_map]
    refine List.map_congr_left fun x _ => ?_
    simp only [Function.comp_apply]
    split
    · rename_i e; rw [e]
    · rfl
  · simp [hs, mset]

theorem addAll_take {l : List ByteArray} {k : Nat} (h : k < l.length) : addAll (l.take (k + 1)) = addk (addAll (l.take k)) l[k] := by
  rw [addAll, List.take_succ_eq_append_getElem h, List.foldl_append]
  rfl

theorem info_one : (Try.prog.info? 57).map (fun i => (i.zero, i.size, i.bytes)) = some (some (.agg #[.string ⟨#[]⟩, .string ⟨#[]⟩, .map none]), 3, 40) := by kernel_rfl

theorem blk_keep {w wr w1 : World} {o : Obj} {row : Option Nat} {p : Nat} (hw : Below w.heap.size w wr) (hp : p < w.heap.size) (hg : (wr.drew.alloc o).grownBy w1 row) (hr : some p ≠ row) : w1.heap[p]? = w.heap[p]? := by
  have hp2 : p < wr.heap.size := Nat.lt_of_lt_of_le hp hw.size
  rw [hg.block p (by simp; omega) hr, Below.heap_alloc _ _ _ (by simpa using hp2)]
  exact hw.block p hp

theorem wcells_snoc : ∀ {l : List WItem} {rs : List Nat} (x : WItem) (r : Nat), rs.length = l.length → wcells (l ++ [x]) (rs ++ [r]) = wcells l rs ++ [.string x.id, .string x.text, .map (some r)]
  | [], [], _, _, _ => rfl
  | [], _ :: _, _, _, h => by simp at h
  | _ :: _, [], _, _, h => by simp at h
  | y :: l, q :: rs, x, r, h => by
    simp only [List.length_cons, Nat.add_right_cancel_iff] at h
    simp [wcells, wcells_snoc x r h]

theorem put_fin {w w' wr w1 : World} {F : Nat → Prop} {p : Nat} {places : Int} {l : List WItem} {v : Value} {rs : List Nat} {id text : ByteArray} {ms : List ByteArray} {o : Obj} {g' cap' : Nat}
    (h1 : w.heap[p]? = some (.cells #[.int .i64 places, v] 54)) (h2 : F p) (h3 : ∀ k, v.ownBlock = some k → F k ∧ k ≠ p)
    (h4 : w.ownsRow 0 57 3 v l.length (wcells l rs)) (h5 : rs.length = l.length) (h6 : rs.Nodup) (h7 : ∀ (i r : Nat) (x : WItem), rs[i]? = some r → l[i]? = some x → F r ∧ MapL w r (mset x.miss))
    (hb' : Below w.heap.size w w') (hbw : Below w'.heap.size w' wr) (hsz : wr.heap.size = w'.heap.size + 2) (hmap : MapL wr w'.heap.size (mset (addAll ms)))
    (hown : w1.ownsRow 0 57 3 (.slice (some ⟨g', 0, none⟩) (l.length + 1) cap') (l.length + 1) (wcells l rs ++ [.string id, .string text, .map (some w'.heap.size)]))
    (hg : (wr.drew.alloc o).grownBy w1 v.ownBlock) (hat : (Value.slice (some ⟨g', 0, none⟩) (l.length + 1) cap').ownBlock = v.ownBlock ∨ (Value.slice (some ⟨g', 0, none⟩) (l.length + 1) cap').ownBlock = some (wr.drew.alloc o).heap.size) :
    WRep (w1.setCell ⟨p, 1, none⟩ (.slice (some ⟨g', 0, none⟩) (l.length + 1) cap')) (fun b => F b ∨ (w.heap.size ≤ b ∧ b < (w1.setCell ⟨p, 1, none⟩ (.slice (some ⟨g', 0, none⟩) (l.length + 1) cap')).heap.size)) p places (l ++ [⟨id, text, addAll ms⟩]) ∧
      Fr F w (w1.setCell ⟨p, 1, none⟩ (.slice (some ⟨g', 0, none⟩) (l.length + 1) cap')) := by
  have hp : p < w.heap.size := (Array.getElem?_eq_some_iff.1 h1).1
  have hw : Below w.heap.size w wr := hb'.trans (hbw.mono hb'.size)
  have hs1 := hb'.size
  have hs3 : (w1.setCell ⟨p, 1, none⟩ (.slice (some ⟨g', 0, none⟩) (l.length + 1) cap')).heap.size = w1.heap.size := by simp [World.setCell]
  have hs4 := hg.size
  have hs5 : (wr.drew.alloc o).heap.size = wr.heap.size + 1 := by simp
  have hpb : some p ≠ v.ownBlock := fun e => (h3 p e.symm).2 rfl
  have hg'lt : g' < w1.heap.size := (hown.lt g' rfl).2
  have hg' : (F g' ∨ w.heap.size ≤ g') ∧ g' ≠ p := by
    simp only [Value.ownBlock] at hat
    rcases hat with e | e
    · exact ⟨.inl (h3 g' e.symm).1, (h3 g' e.symm).2⟩
    · simp only [Option.some.injEq] at e
      exact ⟨.inr (by omega), by omega⟩
  have hrs : ∀ r ∈ rs, r < w.heap.size := by
    intro r hr
    obtain ⟨i, hi⟩ := List.getElem?_of_mem hr
    have hlt := (List.getElem?_eq_some_iff.1 hi).1
    exact (h7 i r l[i] hi (List.getElem?_eq_getElem (by omega))).2.lt
  refine ⟨⟨.slice (some ⟨g', 0, none⟩) (l.length + 1) cap', rs ++ [w'.heap.size], ?_, .inl h2, ?_, ?_, by simp [h5], ?_, ?_⟩, ?_⟩
  · exact setCell_row _ ((blk_keep hw hp hg hpb).trans h1)
  · intro k hk
    simp only [Value.ownBlock, Option.some.injEq] at hk
    subst hk
    refine ⟨?_, hg'.2⟩
    rcases hg'.1 with h | h
    · exact .inl h
    · exact .inr ⟨h, by rw [hs3]; exact hg'lt⟩
  · rw [wcells_snoc _ _ h5, List.length_append]
    refine ownsRow_move hown fun k hk => ?_
    simp only [Value.ownBlock, Option.some.injEq] at hk
    subst hk
    exact Below.heap_setCell _ _ _ _ hg'.2
  · rw [List.nodup_append]
    refine ⟨h6, by simp, fun a ha b hb => ?_⟩
    simp only [List.mem_singleton] at hb
    subst hb
    have := hrs a ha
    omega
  · intro i r x hi hx
    by_cases hlt : i < l.length
    · rw [List.getElem?_append_left (by omega)] at hi
      rw [List.getElem?_append_left hlt] at hx
      obtain ⟨a1, a2⟩ := h7 i r x hi hx
      have hrb : some r ≠ v.ownBlock := fun e => by
        rcases h4.2 with ⟨rfl, _⟩ | ⟨g, cap, cur, rfl, _, hg0, _⟩
        · cases e
        · cases e
          exact a2.not_cells hg0
      have hrp : r ≠ p := fun e => by subst e; exact a2.not_cells h1
      refine ⟨.inl a1, a2.move ?_⟩
      rw [Below.heap_setCell _ _ _ _ hrp]
      exact blk_keep hw a2.lt hg hrb
    · have hxl := (List.getElem?_eq_some_iff.1 hx).1
      simp only [List.length_append, List.length_cons, List.length_nil] at hxl
      obtain rfl : i = l.length := by omega
      rw [List.getElem?_append_right (by omega), h5] at hi
      rw [List.getElem?_append_right (Nat.le_refl _)] at hx
      simp only [Nat.sub_self, List.getElem?_cons_zero, Option.some.injEq] at hi hx
      subst hi
      subst hx
      refine ⟨.inr ⟨hs1, by omega⟩, hmap.move ?_⟩
      rw [Below.heap_setCell _ _ _ _ (by show w'.heap.size ≠ p; omega), hg.block _ (by omega) (fun e => by have := (h4.lt _ e.symm).2; omega), Below.heap_alloc _ _ _ (by show w'.heap.size < wr.heap.size; omega)]
      rfl
  · refine (((((Fr.of_below hw).drew).alloc o).grown hg (fun k e => .inr (h3 k e).1)).setCell (.inr h2) _)

set_option maxHeartbeats 800000 in
theorem put_ok {w : World} {F : Nat → Prop} {p : Nat} {places : Int} {l : List WItem} (id text : ByteArray) (A : Option Addr) (c : Nat) (ms : List ByteArray) (h : WRep w F p places l) (hm : l.length ≤ 1000) (hn : 0 < ms.length) (hn2 : ms.length ≤ 1000) (hr : Kd.C Kd.string w A ms.length ms) (hi : hasIx l id = false) (hf : l.length < places) :
    Calls Try.prog 9 #[.pointer (some ⟨p, 0, none⟩), .string id, .string text, .slice A ms.length c] w fun e w' => e = .returned (.int .i64 0) ∧ 
      WRep w' (fun b => F b ∨ (w.heap.size ≤ b ∧ b < w'.heap.size)) p places (l ++ [⟨id, text, addAll ms⟩]) ∧ Fr F w w' := by
  have h' := h
  obtain ⟨v, rs, h1, h2, h3, h4, h5, h6, h7⟩ := h'
  obtain ⟨k0, k1, kf⟩ := WRep.cell0 h1
  have hp := h.lt
  have H := Lib.hid h
  have H1 := Lib.hid h1
  have H7 := Lib.hid h7
  have H3 : Hid (∀ k, k = p → some k ≠ v.ownBlock) := fun k e hk => (h3 k hk.symm).2 e
  have H3' := Lib.hid h3
  have H5 := Lib.hid h5
  have H6 := Lib.hid h6
  clear h h1 h7 h5 h6 h3
  go_enter Try.func9, Try.ntmps9
  go_wp2_with (go_at_call 17; refine (has_any _ H.out (by unfold maxLen; omega)).mono ?_; rintro e w' ⟨rfl, hb'⟩; have c0 := (hb'.cell (p := ⟨p, 0, none⟩) hp).trans k0)
  go_quiet ((go_at_call 10; exact Calls.quiet_of_same ((len_any ((H.out.below hb').drewN _)).mono fun e w' h => ⟨h.1, h.2.symm⟩)))
  have hmm := @run_makeMap Try.prog
  go_wp2_with fail
  go_loopw [39] (fun i wr => ∃ k : Nat, k ≤ ms.length ∧ i = .int .i64 k ∧ MapL wr w'.heap.size (mset (addAll (ms.take k))) ∧
      wr.heap[w'.heap.size + 1]? = some (.cells #[.string id, .string text, .map (some w'.heap.size)] 57) ∧ Below w'.heap.size w' wr ∧ wr.heap.size = w'.heap.size + 2) (fun i _ => ms.length - (intOf i).toNat)
  case atStart =>
    refine ⟨0, Nat.zero_le _, rfl, (MapL.made (w'.drewN nq)).alloc _, ?_, ?_, ?_⟩
    · have := heap_alloc_new ((w'.drewN nq).alloc (.map #[] 0)) (.cells #[.string id, .string text, .map (some w'.heap.size)] 57)
      simpa using this
    · exact ((below_drewN (Below.refl _ _) _).alloc (by simp) _).alloc (by simp) _
    · simp
  case round =>
    obtain ⟨k, hk, rfl, hmap, hbox, hbw, hsz⟩ := hrel
    have b0 : wr.cell? ⟨w'.heap.size + 1, 0, none⟩ = some (.string id) := by simp [World.cell?, hbox]
    have b1 : wr.cell? ⟨w'.heap.size + 1, 1, none⟩ = some (.string text) := by simp [World.cell?, hbox]
    have b2 : wr.cell? ⟨w'.heap.size + 1, 2, none⟩ = some (.map (some w'.heap.size)) := by simp [World.cell?, hbox]
    have HB := Lib.hid hbox
    clear hbox
    have HS := Lib.hid hsz
    have hsz1 : w'.heap.size + 1 < wr.heap.size := by omega
    clear hsz
    by_cases hlt : k < ms.length
    · obtain ⟨ad, rfl, hcell⟩ := at_str hr hlt
      have hadb := World.block_lt_of_cell? _ _ hcell
      have hcell' := ((hb'.trans (hbw.mono hb'.size)).cell (p := ad.add k) hadb).trans hcell
      clear hcell
      go_wp2_with (at_mapUpdate; refine wpList_mapUpdate_L _ rfl _ _ _ 55 rfl 9 4 Try.underlying55 Try.underlying9 _ _ rfl hmap _ _ rfl rfl ?_; intro w2 hmap2 hg2 hs2)
      refine ⟨⟨k + 1, by omega, by go_num, by rw [addAll_take hlt, ← mput_mset]; exact hmap2, ?_, ?_, by rw [hs2]; exact HS.out⟩, by simp [intOf]; omega⟩
      · rw [hg2.block _ (by omega) (by simp)]; exact HB.out
      · exact hbw.grown hg2 (by omega) (fun k e => by cases e; exact Nat.le_refl _)
    · obtain rfl : k = ms.length := by omega
      rw [List.take_length] at hmap
      have HM := Lib.hid hmap
      clear hmap
      go_wp2_with fail
      have hw := hb'.trans (hbw.mono hb'.size)
      have c1 := (hw.cell (p := ⟨p, 1, none⟩) hp).trans k1
      have hp2 : p < wr.heap.size := Nat.lt_of_lt_of_le hp hw.size
      obtain ⟨i0, hi0, hz0, hz1, hz2⟩ := info_parts info_one
      have HO := Lib.hid (ownsRow_fr h4 (Fr.of_below (S := fun _ => False) hw) (fun _ _ h => h))
      go_region_law ((refine step_append_own rfl (.tmp 51) (.tmp 53) 52 rfl 0 57 i0 _ 3 40 Try.underlying52 hi0 hz0 hz1 hz2 rfl (by decide) v l.length (wcells l rs) rfl (HO.out.drew.alloc _) ⟨wr.heap.size, 0, none⟩ 1 1 [.string id, .string text, .map (some w'.heap.size)] rfl rfl (cells_new _ _ _) (by simp [Value.oneCell']) (by unfold maxLen; omega) (by omega) (Nat.zero_le _) ?_; intro v' w1 hown1 hg1 hn1 hat1; obtain ⟨g', cap', rfl⟩ := own_pos hown1 (by omega); have c2 := WRep.cell0 ((blk_keep hw hp hg1 (H3.out p rfl)).trans H1.out); obtain ⟨c3, c4, c5⟩ := c2; have c6 := c5 1; clear c5))
      all_goals
        go_wp2_with fail
        go_ret
        exact ⟨rfl, put_fin H1.out h2 H3'.out h4 H5.out H6.out H7.out hb' hbw HS.out HM.out hown1 hg1 hat1⟩

end Go.Proofs.Ytaecjkffemmpcaa
