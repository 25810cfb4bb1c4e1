/- The model of palaverlaw09: make. -/
import Derived.Test.YtdogmcpmlglkfaaM1
import Derived.Laws.AppendOwnNone
namespace Go.Proofs.Ytdogmcpmlglkfaa
open Go.RowKit Go.Proofs.YtdogmcpmlglkfaaW.PrintWords Go.Proofs.Ytdogmcpmlglkfaa.PRef

theorem info_file : (Try.prog.info? 48).map (fun i => (i.zero, i.size, i.bytes)) = some (some (.agg #[.string ⟨#[]⟩, .string ⟨#[]⟩, .int .i64 0]), 3, 40) := by kernel_rfl

theorem own_emptyB (w : World) (e : TypeId) (size : Nat) : (w.alloc (.cells #[] e)).ownsRow w.heap.size e size (.slice (some ⟨w.heap.size, 0, none⟩) 0 0) 0 [] :=
  ownsRow_move (own_empty w e size) fun _ _ => rfl

def insAt (fs : List DFile) (name : ByteArray) : Nat := fs.findIdx (fun f => !decide (ltS f.name name))
def insF (fs : List DFile) (name : ByteArray) : List DFile := fs.take (insAt fs name) ++ ⟨name, ⟨#[]⟩, 0⟩ :: fs.drop (insAt fs name)

theorem insAt_le (fs : List DFile) (name : ByteArray) : insAt fs name ≤ fs.length := List.findIdx_le_length
theorem insAt_stop {fs : List DFile} {name : ByteArray} {k : Nat} (hk : k < fs.length) (h : ¬ ltS fs[k].name name) (hno : ∀ j (hj : j < fs.length), j < k → ltS fs[j].name name) : insAt fs name = k := by
  unfold insAt
  rw [List.findIdx_eq hk]
  exact ⟨by simpa using h, fun j hj => by simpa using hno j (by omega) hj⟩
theorem insAt_end {fs : List DFile} {name : ByteArray} (hno : ∀ j (hj : j < fs.length), ltS fs[j].name name) : insAt fs name = fs.length := by
  unfold insAt
  rw [List.findIdx_eq_length]
  intro x hx
  obtain ⟨j, hj, rfl⟩ := List.getElem_of_mem hx
  simpa using hno j hj

theorem fcells_append (a b : List DFile) : fcells (a ++ b) = fcells a ++ fcells b := by simp [fcells]
theorem fcells_take : ∀ (fs : List DFile) (k : Nat), (fcells fs).take (k * 3) = fcells (fs.take k)
  | [], k => by simp [fcells]
  | f :: fs, 0 => by simp [fcells]
  | f :: fs, k + 1 => by
    have ih := fcells_take fs k
    unfold fcells at *
    rw [List.take_succ_cons, List.flatMap_cons, List.flatMap_cons, show (k + 1) * 3 = k * 3 + 1 + 1 + 1 by omega]
    simp only [fcell, List.cons_append, List.nil_append, List.take_succ_cons]
    rw [ih]
theorem fcells_drop : ∀ (fs : List DFile) (k : Nat), (fcells fs).drop (k * 3) = fcells (fs.drop k)
  | [], k => by simp [fcells]
  | f :: fs, 0 => by simp [fcells]
  | f :: fs, k + 1 => by
    have ih := fcells_drop fs k
    unfold fcells at *
    rw [List.drop_succ_cons, List.flatMap_cons, show (k + 1) * 3 = k * 3 + 1 + 1 + 1 by omega]
    simp only [fcell, List.cons_append, List.nil_append, List.drop_succ_cons]
    exact ih
theorem fcells_one (fs : List DFile) : ∀ u ∈ fcells fs, u.oneCell' = true := by
  intro u hu
  obtain ⟨f, _, hf⟩ := List.mem_flatMap.1 hu
  simp only [fcell, List.mem_cons, List.not_mem_nil, or_false] at hf
  rcases hf with rfl | rfl | rfl <;> rfl

theorem insF_len {fs : List DFile} {name : ByteArray} {k : Nat} (hk : k ≤ fs.length) (h : insAt fs name = k) : 0 + k + 1 + (fs.length - k) = (insF fs name).length := by
  unfold insF
  rw [h]
  simp
  omega

theorem as_ins {w : World} {B : Nat} {V : Value} {n k : Nat} {fs : List DFile} {name : ByteArray} (h : w.ownsRow B 48 3 V n ([] ++ (fcells fs).take (k * 3) ++ [.string name, .string ⟨#[]⟩, .int .i64 0] ++ (fcells fs).drop (k * 3))) (hk : insAt fs name = k) :
    w.ownsRow B 48 3 V n (fcells (insF fs name)) := by
  unfold insF
  rw [hk, fcells_append, ← fcells_take]
  have e : fcells (⟨name, ⟨#[]⟩, 0⟩ :: fs.drop k) = [.string name, .string ⟨#[]⟩, .int .i64 0] ++ (fcells fs).drop (k * 3) := by
    rw [fcells_drop]; rfl
  rw [e, ← List.append_assoc]
  rw [List.nil_append] at h
  exact h

/-- The new row is stored. -/
theorem MRep.stored {w w' : World} {B q n : Nat} {V V' : Value} {s s' : DSt} (h : MRep w B q V s) (hb : Below w.heap.size w w') (hown : w'.ownsRow w.heap.size 48 3 V' n (fcells s'.fs)) (hn : n = s'.fs.length) (he : mcells s' V' = (mcells s V).setIfInBounds 1 V') :
    MRep (w'.setCell ⟨q, 1, none⟩ V') B q V' s' ∧ Fr (fun b => b = q) w (w'.setCell ⟨q, 1, none⟩ V') := by
  have hq := h.lt
  have hB : B ≤ w.heap.size := Nat.le_trans h.1 (Nat.le_of_lt hq)
  refine ⟨⟨h.1, ?_, ?_⟩, ?_⟩
  · rw [he]
    exact setCell_row _ ((hb.block q hq).trans h.2.1)
  · subst hn
    refine own_setCell (ownsRow_weaken hown hB) (fun e => ?_) _
    have := (hown.lt q e.symm).1
    omega
  · exact (Fr.of_below (S := fun b => b = q) hb).setCell (p := ⟨q, 1, none⟩) (.inr rfl) _

set_option maxHeartbeats 2000000 in
set_option maxRecDepth 100000 in
theorem make_any {w : World} {B q : Nat} {V : Value} {s : DSt} (name : ByteArray) (h : MRep w B q V s) (hl : s.fs.length ≤ 1000) :
    Calls Try.prog 28 #[.pointer (some ⟨q, 0, none⟩), .string name] w fun e w' => e = .returned (.int .i64 (insAt s.fs name)) ∧ ∃ V', MRep w' B q V' { s with fs := insF s.fs name } ∧ Fr (fun b => b = q) w w' := by
  obtain ⟨c0, c1, c2, c3, c4, cf⟩ := box5 h.2.1
  have cf1 := cf 1
  obtain ⟨A, c, hV, hc⟩ := own_slice h.2.2
  have H := Lib.hid h
  have hown := Lib.hid h.2.2
  subst hV
  clear cf h c0 c2 c3 c4
  go_enter Try.func28, Try.ntmps28
  go_wp2_with fail
  go_loopw [5] (fun i wr => ∃ k : Nat, k ≤ s.fs.length ∧ i = .int .i64 k ∧ (∀ j (hj : j < s.fs.length), j < k → ltS s.fs[j].name name) ∧ Below w.heap.size w wr) (fun i _ => s.fs.length - (intOf i).toNat)
  case atStart => exact ⟨0, Nat.zero_le _, rfl, fun _ _ h => absurd h (Nat.not_lt_zero _), Below.refl _ _⟩
  case round =>
    obtain ⟨k, hk, rfl, hno, hb⟩ := hrel
    have HB := Lib.hid hb
    have HNO := Lib.hid hno
    have d1 := (hb.cell (World.block_lt_of_cell? _ _ c1)).trans c1
    have HR := Lib.hid (H.out.below hb)
    have hzw := hb.size
    clear hb hno
    by_cases hstep : ∃ hlt : k < s.fs.length, ltS s.fs[k].name name
    · obtain ⟨hlt, hless⟩ := hstep
      obtain ⟨g, cap, e, hcap, hg1, hg2, hg3, f0, f1, f2⟩ := H.out.file hlt
      cases e
      have x0 := (HB.out.cell (p := ⟨g, k * 3, none⟩) hg2).trans f0
      obtain ⟨nm, hnm⟩ : ∃ nm, nm = s.fs[k].name := ⟨_, rfl⟩
      rw [← hnm] at x0 hless
      have HNM := Lib.hid hnm
      have hl2 : Op.bytesLess nm.toList name.toList = true := by rw [less_eq]; exact decide_eq_true hless
      clear f0 f1 f2 hnm
      go_wp2_with fail
      exact ⟨⟨k + 1, by omega, by go_num, fun j hj hjk => by
          rcases Nat.lt_or_eq_of_le (Nat.le_of_lt_succ hjk) with h | h
          · exact HNO.out j hj h
          · subst h; rw [← HNM.out]; exact hless, HB.out⟩, by simp [intOf]; omega⟩
    · have hat : insAt s.fs name = k := by
        by_cases hlt : k < s.fs.length
        · exact insAt_stop hlt (fun h => hstep ⟨hlt, h⟩) HNO.out
        · rw [insAt_end fun j hj => HNO.out j hj (by omega)]
          omega
      have HAT := Lib.hid hat
      obtain ⟨i0, hii0, hz0, hz1, hz2⟩ := info_parts info_file
      have H1C := Lib.hid (fcells_one s.fs)
      rcases A with _ | ⟨g, o, ix⟩
      · obtain ⟨hn0, rfl⟩ : s.fs.length = 0 ∧ c = 0 := by
          rcases hown.out.2 with ⟨h, h0⟩ | ⟨g', c', _, h, _⟩
          · simp only [Value.slice.injEq] at h; exact ⟨h0, h.2.2⟩
          · cases h
        have hfs : s.fs = [] := List.eq_nil_of_length_eq_zero hn0
        have HFS := Lib.hid hfs
        obtain rfl : k = 0 := by omega
        rw [hn0] at d1
        have d1a : (wr.alloc (.cells #[] 48)).cell? ⟨q, 1, none⟩ = some (.slice none 0 0) := (((Below.refl wr.heap.size wr).alloc (Nat.le_refl _) _).cell (World.block_lt_of_cell? _ _ d1)).trans d1
        have hn0' : s.fs.length = 0 := hn0
        clear hfs hn0 hstep hat c1
        go_wp2_with (first
          | (at_builtin; refine wpList_append_own_none rfl (.tmp 28) (.tmp 34) 39 rfl wr.heap.size 48 i0 3 Try.underlying39 hii0 (.slice (some ⟨wr.heap.size, 0, none⟩) 0 0) 0 [] rfl (own_emptyB _ _ _) rfl ?_)
          | (at_builtin; refine wpList_append_own_at _ rfl (.tmp 36) (.tmp 39) 39 rfl wr.heap.size 48 i0 _ 3 40 Try.underlying39 hii0 hz0 hz1 hz2 rfl (by decide) (.slice (some ⟨wr.heap.size, 0, none⟩) 0 0) 0 [] rfl ((own_emptyB _ _ _).alloc _) ⟨wr.heap.size + 1, 0, none⟩ 1 1 [.string name, .string ⟨#[]⟩, .int .i64 0] rfl rfl (by rw [← asz wr (.cells #[] 48)]; exact cells_new _ _ _) (by simp [Value.oneCell']) (by unfold maxLen; omega) (by omega) (by rw [asz, asz]; omega) ?_; intro v6 w6 ho6 hg6 hn6 hat6; have hb6 := (((Below.refl wr.heap.size wr).alloc (Nat.le_refl _) _).alloc (by rw [asz]; omega) _).grown hg6 (by rw [asz, asz]; omega) (fun b hb => by cases hb; exact Nat.le_refl _); have hR6 := HR.out.below hb6; obtain ⟨_, d6, _, _, _, dff⟩ := box5 (hR6.2.1); rw [hn0'] at d6; have d6f := dff 1; have HB6 := Lib.hid hb6; clear hg6 hn6 hat6 hb6 dff hR6)
          | (at_builtin; refine wpList_append_own_none rfl (.tmp 41) (.tmp 47) 39 rfl wr.heap.size 48 i0 3 Try.underlying39 hii0 v6 (0 + 1) ([] ++ [.string name, .string ⟨#[]⟩, .int .i64 0]) rfl ho6 rfl ?_; obtain ⟨A7, c7, rfl, _⟩ := own_slice ho6))
        go_ret
        have hone : insF s.fs name = [⟨name, ⟨#[]⟩, 0⟩] := by rw [HFS.out]; rfl
        obtain ⟨hm, hbB⟩ := MRep.stored (s' := { s with fs := insF s.fs name }) (V' := .slice A7 1 c7) (n := 1) HR.out HB6.out (by rw [hone]; exact ho6) (by rw [hone]; rfl) rfl
        exact ⟨by rw [HAT.out]; rfl, _, hm, (Fr.of_below HB.out).trans hbB fun _ _ h => h⟩
      · obtain ⟨rfl, rfl⟩ : o = 0 ∧ ix = none := by
          rcases hown.out.2 with ⟨h, _⟩ | ⟨g', c', _, h, _⟩
          · cases h
          · cases h; exact ⟨rfl, rfl⟩
        have hgl : g < wr.heap.size := (HR.out.2.2.lt g rfl).2
        have hc6 : s.fs.length ≤ c := hc
        have hkc : k ≤ c := by omega
        obtain ⟨A2, hA2⟩ : ∃ A : Addr, (if c = k then some (⟨g, 0, none⟩ : Addr) else some ⟨g, k * 3, none⟩) = some A := by
          by_cases h : c = k
          · exact ⟨_, by rw [if_pos h]⟩
          · exact ⟨_, by rw [if_neg h]⟩
        have hl1 : ((fcells s.fs).take (k * 3)).length = k * 3 := by rw [List.length_take, fcells_length]; omega
        have hl2 : ((fcells s.fs).drop (k * 3)).length = (s.fs.length - k) * 3 := by rw [List.length_drop, fcells_length]; omega
        have hcells : ∀ (x : World), x.heap[g]? = wr.heap[g]? → ∀ j u, (fcells s.fs)[j]? = some u → x.cell? ⟨g, j, none⟩ = some u := fun x hx j u hu => by
          have h0 := HR.out.2.2.cells (g := g) rfl j u hu
          rw [add0] at h0
          exact (World.cell?_of_block hx).trans h0
        have hs1 : ∀ (x : World), x.heap[g]? = wr.heap[g]? → ∀ j u, ((fcells s.fs).take (k * 3))[j]? = some u → x.cell? ((⟨g, 0, none⟩ : Addr).add j) = some u := fun x hx j u hu => by
          rw [List.getElem?_take] at hu
          split at hu
          · rw [add0]; exact hcells x hx j u hu
          · cases hu
        have hs2 : ∀ (x : World), x.heap[g]? = wr.heap[g]? → ∀ j u, ((fcells s.fs).drop (k * 3))[j]? = some u → x.cell? (A2.add j) = some u := fun x hx j u hu => by
          by_cases h : c = k
          · rw [List.eq_nil_of_length_eq_zero (l := (fcells s.fs).drop (k * 3)) (by rw [hl2]; omega)] at hu
            simp at hu
          · rw [if_neg h] at hA2
            cases hA2
            rw [List.getElem?_drop] at hu
            rw [addk']
            exact hcells x hx _ u hu
        have HS1 := Lib.hid hs1
        have HS2 := Lib.hid hs2
        have HL1 := Lib.hid hl1
        have HL2 := Lib.hid hl2
        have d1a : (wr.alloc (.cells #[] 48)).cell? ⟨q, 1, none⟩ = some (.slice (some ⟨g, 0, none⟩) s.fs.length c) := (((Below.refl wr.heap.size wr).alloc (Nat.le_refl _) _).cell (World.block_lt_of_cell? _ _ d1)).trans d1
        clear hat hcells hs1 hs2 hl1 hl2
        by_cases hlt : k < s.fs.length
        · have hless : ¬ ltS s.fs[k].name name := fun h => hstep ⟨hlt, h⟩
          obtain ⟨g', cap, e, hcap, hg1, hg2, hg3, f0, f1, f2⟩ := H.out.file hlt
          cases e
          have x0 := (HB.out.cell (p := ⟨g, k * 3, none⟩) hg2).trans f0
          obtain ⟨nm, hnm⟩ : ∃ nm, nm = s.fs[k].name := ⟨_, rfl⟩
          rw [← hnm] at x0 hless
          have hl2 : Op.bytesLess nm.toList name.toList = false := by rw [less_eq]; exact decide_eq_false hless
          obtain rfl : A2 = ⟨g, k * 3, none⟩ := by rw [if_neg (by omega)] at hA2; exact (Option.some.inj hA2).symm
          clear f0 f1 f2 hnm hstep hless hA2
          go_wp2_with (first
            | (at_builtin; refine wpList_append_own_at _ rfl (.tmp 28) (.tmp 34) 39 rfl wr.heap.size 48 i0 _ 3 40 Try.underlying39 hii0 hz0 hz1 hz2 rfl (by decide) (.slice (some ⟨wr.heap.size, 0, none⟩) 0 0) 0 [] rfl (own_emptyB _ _ _) ⟨g, 0, none⟩ k c ((fcells s.fs).take (k * 3)) rfl HL1.out (HS1.out _ (Below.heap_alloc _ _ _ hgl)) (fun u hu => H1C.out u (List.mem_of_mem_take hu)) (by unfold maxLen; omega) (by omega) (by rw [asz]; omega) ?_; intro v5 w5 ho5 hg5 hn5 hat5; have hb5 := ((Below.refl wr.heap.size wr).alloc (Nat.le_refl _) _).grown hg5 (by rw [asz]; omega) (fun b hb => by cases hb; exact Nat.le_refl _); have d5 := (hb5.cell (World.block_lt_of_cell? _ _ d1)).trans d1; have HB5 := Lib.hid hb5; have hz5 := hb5.size; clear hg5 hn5 hat5 hb5)
            | (at_builtin; refine wpList_append_own_at _ rfl (.tmp 36) (.tmp 39) 39 rfl wr.heap.size 48 i0 _ 3 40 Try.underlying39 hii0 hz0 hz1 hz2 rfl (by decide) v5 (0 + k) ([] ++ (fcells s.fs).take (k * 3)) rfl (ho5.alloc _) ⟨w5.heap.size, 0, none⟩ 1 1 [.string name, .string ⟨#[]⟩, .int .i64 0] rfl rfl (cells_new _ _ _) (by simp [Value.oneCell']) (by unfold maxLen; omega) (by omega) (by rw [asz]; omega) ?_; intro v6 w6 ho6 hg6 hn6 hat6; have hb6 := (HB5.out.alloc HB5.out.size _).grown hg6 (by rw [asz]; omega) (fun b hb => (ho5.lt b hb).1); have d6 := (hb6.cell (World.block_lt_of_cell? _ _ d1)).trans d1; have HB6 := Lib.hid hb6; have hz6 := hb6.size; clear hg6 hn6 hat6 hb6 ho5)
            | (at_builtin; refine wpList_append_own_at _ rfl (.tmp 41) (.tmp 47) 39 rfl wr.heap.size 48 i0 _ 3 40 Try.underlying39 hii0 hz0 hz1 hz2 rfl (by decide) v6 (0 + k + 1) ([] ++ (fcells s.fs).take (k * 3) ++ [.string name, .string ⟨#[]⟩, .int .i64 0]) rfl ho6 ⟨g, k * 3, none⟩ (s.fs.length - k) (c - k) ((fcells s.fs).drop (k * 3)) (by first | rfl | simp [Act.eval, Act.put]) HL2.out (HS2.out _ (HB6.out.block g hgl)) (fun u hu => H1C.out u (List.mem_of_mem_drop hu)) (by unfold maxLen; omega) (by omega) (by omega) ?_; intro v7 w7 ho7 hg7 hn7 hat7; have hb7 := HB6.out.grown hg7 hz6 (fun b hb => (ho6.lt b hb).1); obtain ⟨_, d7, _, _, _, dff⟩ := box5 ((HR.out.below hb7).2.1); have d7f := dff 1; have HB7 := Lib.hid hb7; obtain ⟨A7, c7, rfl, _⟩ := own_slice ho7; clear hg7 hn7 hat7 hb7 ho6 dff))
          go_ret
          obtain ⟨hm, hbB⟩ := MRep.stored (s' := { s with fs := insF s.fs name }) HR.out HB7.out (as_ins ho7 HAT.out) (insF_len hk HAT.out) rfl
          rw [show 0 + k + 1 + (s.fs.length - k) = k + 1 + (s.fs.length - k) by omega] at hm hbB
          exact ⟨by rw [HAT.out]; rfl, _, hm, (Fr.of_below HB.out).trans hbB fun _ _ h => h⟩
        · clear hstep
          go_wp2_with (first
            | (at_builtin; refine wpList_append_own_at _ rfl (.tmp 28) (.tmp 34) 39 rfl wr.heap.size 48 i0 _ 3 40 Try.underlying39 hii0 hz0 hz1 hz2 rfl (by decide) (.slice (some ⟨wr.heap.size, 0, none⟩) 0 0) 0 [] rfl (own_emptyB _ _ _) ⟨g, 0, none⟩ k c ((fcells s.fs).take (k * 3)) rfl HL1.out (HS1.out _ (Below.heap_alloc _ _ _ hgl)) (fun u hu => H1C.out u (List.mem_of_mem_take hu)) (by unfold maxLen; omega) (by omega) (by rw [asz]; omega) ?_; intro v5 w5 ho5 hg5 hn5 hat5; have hb5 := ((Below.refl wr.heap.size wr).alloc (Nat.le_refl _) _).grown hg5 (by rw [asz]; omega) (fun b hb => by cases hb; exact Nat.le_refl _); have d5 := (hb5.cell (World.block_lt_of_cell? _ _ d1)).trans d1; have HB5 := Lib.hid hb5; have hz5 := hb5.size; clear hg5 hn5 hat5 hb5)
            | (at_builtin; refine wpList_append_own_at _ rfl (.tmp 36) (.tmp 39) 39 rfl wr.heap.size 48 i0 _ 3 40 Try.underlying39 hii0 hz0 hz1 hz2 rfl (by decide) v5 (0 + k) ([] ++ (fcells s.fs).take (k * 3)) rfl (ho5.alloc _) ⟨w5.heap.size, 0, none⟩ 1 1 [.string name, .string ⟨#[]⟩, .int .i64 0] rfl rfl (cells_new _ _ _) (by simp [Value.oneCell']) (by unfold maxLen; omega) (by omega) (by rw [asz]; omega) ?_; intro v6 w6 ho6 hg6 hn6 hat6; have hb6 := (HB5.out.alloc HB5.out.size _).grown hg6 (by rw [asz]; omega) (fun b hb => (ho5.lt b hb).1); have d6 := (hb6.cell (World.block_lt_of_cell? _ _ d1)).trans d1; have HB6 := Lib.hid hb6; have hz6 := hb6.size; clear hg6 hn6 hat6 hb6 ho5)
            | (at_builtin; refine wpList_append_own_at _ rfl (.tmp 41) (.tmp 47) 39 rfl wr.heap.size 48 i0 _ 3 40 Try.underlying39 hii0 hz0 hz1 hz2 rfl (by decide) v6 (0 + k + 1) ([] ++ (fcells s.fs).take (k * 3) ++ [.string name, .string ⟨#[]⟩, .int .i64 0]) rfl ho6 A2 (s.fs.length - k) (c - k) ((fcells s.fs).drop (k * 3)) (by first | rfl | simp [Act.eval, Act.put]) HL2.out (HS2.out _ (HB6.out.block g hgl)) (fun u hu => H1C.out u (List.mem_of_mem_drop hu)) (by unfold maxLen; omega) (by omega) (by omega) ?_; intro v7 w7 ho7 hg7 hn7 hat7; have hb7 := HB6.out.grown hg7 hz6 (fun b hb => (ho6.lt b hb).1); obtain ⟨_, d7, _, _, _, dff⟩ := box5 ((HR.out.below hb7).2.1); have d7f := dff 1; have HB7 := Lib.hid hb7; obtain ⟨A7, c7, rfl, _⟩ := own_slice ho7; clear hg7 hn7 hat7 hb7 ho6 dff))
          go_ret
          obtain ⟨hm, hbB⟩ := MRep.stored (s' := { s with fs := insF s.fs name }) HR.out HB7.out (as_ins ho7 HAT.out) (insF_len hk HAT.out) rfl
          rw [show 0 + k + 1 + (s.fs.length - k) = k + 1 + (s.fs.length - k) by omega] at hm hbB
          exact ⟨by rw [HAT.out]; rfl, _, hm, (Fr.of_below HB.out).trans hbB fun _ _ h => h⟩

end Go.Proofs.Ytdogmcpmlglkfaa
