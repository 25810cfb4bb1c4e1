/- Walks of package disk: there, Used. -/
import Derived.Test.YtdogmcpmlglkfaaD1
import Derived.Laws.ResultCell
import Derived.Laws.Rows
namespace Go.Proofs.Ytdogmcpmlglkfaa
open Go.RowKit

theorem beginS_fs (s : DSt) (name : ByteArray) : (beginS s name).2.fs = s.fs := by
  unfold beginS
  split
  · rfl
  · split <;> rfl

theorem beginS_room (s : DSt) (name : ByteArray) : (beginS s name).2.room = s.room := by
  unfold beginS
  split
  · rfl
  · split <;> rfl

def zfile : DFile := ⟨⟨#[]⟩, ⟨#[]⟩, 0⟩

def thereS (s : DSt) (name : ByteArray) : DFile × Int :=
  if (beginS s name).1 = 0 then match dget s.fs name with | none => (zfile, 10) | some f => (f, 0) else (zfile, (beginS s name).1)

theorem box2 {w : World} {b : Nat} {x y : Value} {t : TypeId} (h : w.heap[b]? = some (.cells #[x, y] t)) : w.cell? ⟨b, 0, none⟩ = some x ∧ w.cell? ⟨b, 1, none⟩ = some y ∧ (∀ o, w.frozen? ⟨b, o, none⟩ = false) := by
  refine ⟨by simp [World.cell?, h], by simp [World.cell?, h], fun o => by simp [World.frozen?, h]⟩

theorem ret_file {fn : Func} {p u : Tmp} (h : fn.results = #[.cell p 59, .tmp u]) {a : Act} {w : World} {R : Ending → World → Prop} (g : Nat) (d : ByteArray) (n : Int) (e : Value) (hp : a.tmps.getD p undef = .pointer (some ⟨g, 0, none⟩)) (hu : a.tmps.getD u undef = e)
    (hg : w.heap[g]? = some (.cells #[.string d, .int .i64 n] 59)) (hd : a.defers = []) (hR : R (.returned (.tuple #[.agg #[.string d, .int .i64 n], e])) w) : bodyPost Try.prog fn R .ret a w := by
  refine bodyPost_ret (v := .tuple #[.agg #[.string d, .int .i64 n], e]) ?_ hd hR
  rw [results_cell_tmp h, hp, hu]
  have hld : (loadVar 59 ⟨g, 0, none⟩).run Try.prog w = .ok (.agg #[.string d, .int .i64 n]) w := run_loadVar_row w g _ _ _ _ _ hg Try.underlying59 rfl (by kernel_rfl)
  simp [asAddr, Result.andThen, hld]

theorem there_nil (name : ByteArray) (w : World) : Calls Try.prog 25 #[.pointer none, .string name] w fun e w' => e = .returned (.tuple #[.agg #[.string ⟨#[]⟩, .int .i64 0], .int .i64 1]) ∧ Below w.heap.size w w' := by
  go_enter Try.func25, Try.ntmps25
  go_wp2_with (go_at_call 24; refine (begin_nil name _).mono ?_; rintro e w1 ⟨rfl, rfl⟩)
  (try simp only [Exit.inBlock, Exit.then])
  exact ret_file rfl w.heap.size _ _ _ rfl rfl (heap_alloc_new _ _) rfl ⟨rfl, (Below.refl _ _).alloc (Nat.le_refl _) _⟩

/-- The frame of an operation on a disk behind the making of a variable. -/
theorem DFr.of_alloc {p r : Nat} {w w' : World} {o : Obj} (h : DFr p r (w.alloc o) w') : DFr p r w w' := ((Fr.refl _ w).alloc o).trans h fun _ _ h => h

theorem there_fin {w w1 : World} {p r : Nat} {s' : DSt} {o : Obj} {x y : Value} (hd : DRep w1 p r s') (hf : DFr p r (w.alloc o) w1) (hb : w1.heap[w.heap.size]? = some (.cells #[x, y] 59)) (hpl : p < w.heap.size) (hrl : r < w.heap.size) (d : ByteArray) (n : Int) :
    ((w1.setCell ⟨w.heap.size, 0, none⟩ (.string d)).setCell ⟨w.heap.size, 1, none⟩ (.int .i64 n)).heap[w.heap.size]? = some (.cells #[.string d, .int .i64 n] 59) ∧
      DRep ((w1.setCell ⟨w.heap.size, 0, none⟩ (.string d)).setCell ⟨w.heap.size, 1, none⟩ (.int .i64 n)) p r s' ∧ DFr p r w ((w1.setCell ⟨w.heap.size, 0, none⟩ (.string d)).setCell ⟨w.heap.size, 1, none⟩ (.int .i64 n)) := by
  refine ⟨setCell_row _ (setCell_row _ hb), hd.move ?_ ?_, (hf.of_alloc.setCell (.inl (Nat.le_refl _)) _).setCell (.inl (Nat.le_refl _)) _⟩
  · rw [Below.heap_setCell _ _ _ _ (by simp only; omega), Below.heap_setCell _ _ _ _ (by simp only; omega)]
  · rw [Below.heap_setCell _ _ _ _ (by simp only; omega), Below.heap_setCell _ _ _ _ (by simp only; omega)]

theorem set_size (w : World) (a b : Addr) (x y : Value) : ((w.setCell a x).setCell b y).heap.size = w.heap.size := by simp [World.setCell]

set_option maxHeartbeats 1000000 in
theorem there_any {w : World} {p r : Nat} {s : DSt} (name : ByteArray) (h : DRep w p r s) (hl : 0 ≤ s.left) (hl2 : s.left ≤ 9223372036854775807) :
    Calls Try.prog 25 #[.pointer (some ⟨p, 0, none⟩), .string name] w fun e w' =>
      e = .returned (.tuple #[.agg #[.string (thereS s name).1.data, .int .i64 (thereS s name).1.safe], .int .i64 (thereS s name).2]) ∧ DRep w' p r (beginS s name).2 ∧ DFr p r w w' := by
  have hpl := h.lt
  have hrl := h.2.lt
  have hbg := begin_any (w := w.alloc (.cells #[.string ⟨#[]⟩, .int .i64 0] 59)) name (h.below ((Below.refl _ _).alloc (Nat.le_refl _) _)) hl hl2
  have hfs := beginS_fs s name
  obtain ⟨E, hE⟩ : ∃ E, E = (beginS s name).1 := ⟨_, rfl⟩
  obtain ⟨s', hs'⟩ : ∃ s', s' = (beginS s name).2 := ⟨_, rfl⟩
  rw [← hE, ← hs'] at hbg
  rw [← hs'] at hfs ⊢
  have HBG := Lib.hid hbg
  have HFS := Lib.hid hfs
  have hbox : ∀ w1, DFr p r (w.alloc (.cells #[.string ⟨#[]⟩, .int .i64 0] 59)) w1 → w1.heap[w.heap.size]? = some (.cells #[.string ⟨#[]⟩, .int .i64 0] 59) := fun w1 hf =>
    (hf.block w.heap.size (by rw [asz]; omega) (by rintro (e | e) <;> omega)).trans (heap_alloc_new _ _)
  have HBX := Lib.hid hbox
  clear hbg h hs' hfs hbox
  by_cases he : E = 0
  · subst he
    cases hg : dget s.fs name with
    | none =>
      rw [show thereS s name = (zfile, 10) by rw [thereS, if_pos hE.symm, hg]]
      have h1 : mget (s'.fs.map fent) name = none := by rw [mget_dmap, HFS.out, hg]; rfl
      have h2 : mhas (s'.fs.map fent) name = false := by rw [mhas_dmap, HFS.out, hg]; rfl
      have H1 := Lib.hid h1
      have H2 := Lib.hid h2
      clear h1 h2 hg hE
      go_enter Try.func25, Try.ntmps25
      go_wp2_with (first
        | (go_at_call 24; refine HBG.out.mono ?_; rintro e w1 ⟨rfl, hd1, hf1⟩; obtain ⟨d0, d1, d2, d3, d4, df⟩ := box5 hd1.1; have HD1 := Lib.hid hd1; have HF1 := Lib.hid hf1; have HB1 := Lib.hid (HBX.out w1 hf1); obtain ⟨b0, b1, bf⟩ := box2 HB1.out; have bf0 := bf 0; have bf1 := bf 1; clear bf; have hz1 : w.heap.size < w1.heap.size := Nat.lt_of_lt_of_le (by rw [asz]; omega) hf1.size; clear df hd1 hf1)
        | (at_lookup; refine wpList_lookup_L _ rfl _ _ 55 true rfl 9 59 Try.underlying55 Try.underlying9 _ (zero_file _) r _ rfl HD1.out.2 name rfl ?_; rw [H1.out, H2.out]))
      obtain ⟨g1, g2, g3⟩ := there_fin HD1.out HF1.out HB1.out hpl hrl ⟨#[]⟩ 0
      (try simp only [Exit.inBlock, Exit.then])
      exact ret_file rfl w.heap.size _ _ _ rfl rfl ((Below.heap_alloc _ _ _ (by rw [set_size]; exact hz1)).trans g1) rfl ⟨rfl, g2.below ((Below.refl _ _).alloc (Nat.le_refl _) _), g3.alloc _⟩
    | some f =>
      rw [show thereS s name = (f, 0) by rw [thereS, if_pos hE.symm, hg]]
      have h1 : mget (s'.fs.map fent) name = some (.agg #[.string f.data, .int .i64 f.safe]) := by rw [mget_dmap, HFS.out, hg]; rfl
      have h2 : mhas (s'.fs.map fent) name = true := by rw [mhas_dmap, HFS.out, hg]; rfl
      have H1 := Lib.hid h1
      have H2 := Lib.hid h2
      clear h1 h2 hg hE
      go_enter Try.func25, Try.ntmps25
      go_wp2_with (first
        | (go_at_call 24; refine HBG.out.mono ?_; rintro e w1 ⟨rfl, hd1, hf1⟩; obtain ⟨d0, d1, d2, d3, d4, df⟩ := box5 hd1.1; have HD1 := Lib.hid hd1; have HF1 := Lib.hid hf1; have HB1 := Lib.hid (HBX.out w1 hf1); obtain ⟨b0, b1, bf⟩ := box2 HB1.out; have bf0 := bf 0; have bf1 := bf 1; clear bf; have hz1 : w.heap.size < w1.heap.size := Nat.lt_of_lt_of_le (by rw [asz]; omega) hf1.size; clear df hd1 hf1)
        | (at_lookup; refine wpList_lookup_L _ rfl _ _ 55 true rfl 9 59 Try.underlying55 Try.underlying9 _ (zero_file _) r _ rfl HD1.out.2 name rfl ?_; rw [H1.out, H2.out]))
      obtain ⟨g1, g2, g3⟩ := there_fin HD1.out HF1.out HB1.out hpl hrl f.data f.safe
      (try simp only [Exit.inBlock, Exit.then])
      exact ret_file rfl w.heap.size _ _ _ rfl rfl ((Below.heap_alloc _ _ _ (by rw [set_size]; exact hz1)).trans g1) rfl ⟨rfl, g2.below ((Below.refl _ _).alloc (Nat.le_refl _) _), g3.alloc _⟩
  · rw [show thereS s name = (zfile, E) by rw [thereS, if_neg (fun h => he (hE.trans h)), hE]]
    clear hE
    go_enter Try.func25, Try.ntmps25
    go_wp2_with (go_at_call 24; refine HBG.out.mono ?_; rintro e w1 ⟨rfl, hd1, hf1⟩; have HD1 := Lib.hid hd1; have HF1 := Lib.hid hf1; have HB1 := Lib.hid (HBX.out w1 hf1); obtain ⟨b0, b1, bf⟩ := box2 HB1.out; have bf0 := bf 0; have bf1 := bf 1; clear bf hd1 hf1)
    obtain ⟨g1, g2, g3⟩ := there_fin HD1.out HF1.out HB1.out hpl hrl ⟨#[]⟩ 0
    (try simp only [Exit.inBlock, Exit.then])
    exact ret_file rfl w.heap.size _ _ _ rfl rfl g1 rfl ⟨rfl, g2, g3⟩

/-! ### Used -/
def used (fs : List DFile) : Nat := (fs.map (fun f => f.data.size)).sum
def vsize (v : Value) : Nat := match v.cells[0]? with | some (Value.string d) => d.size | _ => 0
def sumV (m : List (ByteArray × Value)) : Nat := (m.map (fun q => vsize q.2)).sum

theorem sumV_dmap (fs : List DFile) : sumV (fs.map fent) = used fs := by
  unfold sumV used
  rw [List.map_map]
  congr 1

theorem used_nil (w : World) : Calls Try.prog 16 #[.pointer none] w fun e w' => e = .returned (.int .i64 0) ∧ w' = w := by
  go_enter Try.func16, Try.ntmps16
  go_wp2
  go_ret
  exact ⟨rfl, rfl⟩

theorem sum_perm {a b : List (ByteArray × Value)} (h : a.Perm b) : sumV a = sumV b := (h.map _).sum_nat

theorem ent_of {fs : List DFile} {done left : List (ByteArray × Value)} (h : (done ++ left).Perm (fs.map fent)) {i : Nat} {q : ByteArray × Value} (hi : left[i]? = some q) : ∃ f ∈ fs, fent f = q :=
  List.mem_map.1 (h.mem_iff.1 (List.mem_append_right _ (List.mem_of_getElem? hi)))

theorem wpList_next_F {P : Program} (w : World) {ops : Array Oper} {rest : List Oper} {o : Oper} {a : Act} {Q : Exit → Act → World → Prop} (hg : o.guard = none) (it : Operand) (hop : o.op = Op.next it false) (r b : Nat) (fs : List DFile) (left : List (ByteArray × Value))
    (hit : a.eval it = .pointer (some ⟨r, 0, none⟩)) (h : RangeL w r b (fs.map fent) left) (hm : ∀ q ∈ left, ∃ f ∈ fs, fent f = q)
    (hDone : left = [] → wpList P ops Q rest (a.put o.dst (.tuple #[.bool false])) w)
    (hMore : ∀ (i : Nat) (f : DFile) (w' : World), left[i]? = some (fent f) → RangeL w' r b (fs.map fent) (left.eraseIdx i) → Fr (fun k => k = r) w w' → Hid (w'.heap.size = w.heap.size) →
      (Instr.entry (.pointer (some ⟨r, 0, none⟩))).run P w' = .ok (.tuple #[.string f.name, .agg #[.string f.data, .int .i64 f.safe]]) w' → wpList P ops Q rest (a.put o.dst (.tuple #[.bool true, .string f.name, .agg #[.string f.data, .int .i64 f.safe]])) w') :
    wpList P ops Q (o :: rest) a w :=
  wpList_next_L w hg it hop r b (fs.map fent) left hit h hDone fun i k v w' hi hr hf hs he => by
    obtain ⟨f, _, ef⟩ := hm (k, v) (List.mem_of_getElem? hi)
    cases ef
    exact hMore i f w' hi hr hf (Lib.hid hs) he

set_option maxHeartbeats 1000000 in
theorem used_any {w : World} {p r : Nat} {s : DSt} (h : DRep w p r s) (hu : used s.fs ≤ 4611686018427387904) : Calls Try.prog 16 #[.pointer (some ⟨p, 0, none⟩)] w fun e w' => e = .returned (.int .i64 (used s.fs)) ∧ Below w.heap.size w w' := by
  obtain ⟨c0, c1, c2, c3, c4, cf⟩ := box5 h.1
  have hrl := h.2.lt
  have hM := Lib.hid h.2
  clear cf h
  go_enter Try.func16, Try.ntmps16
  go_wp2_with (at_range; refine wpList_range_L _ rfl _ 55 rfl 9 59 Try.underlying55 r (s.fs.map fent) rfl hM.out ?_; intro w0 hr0 hf0 hs0)
  go_frame
  go_loopw [3] (fun n wr => ∃ left done : List (ByteArray × Value), RangeL wr w.heap.size r (s.fs.map fent) left ∧ (done ++ left).Perm (s.fs.map fent) ∧ n = .int .i64 (sumV done) ∧ Below w.heap.size w wr) (fun _ wr => wr.rangeLeft r w.heap.size)
  case atStart => exact ⟨s.fs.map fent, [], hr0, List.Perm.refl _, rfl, hf0.to_below (Nat.le_refl _) fun _ _ h => h⟩
  case round =>
    obtain ⟨left, done, hr, hp, rfl, hb⟩ := hrel
    have HR := Lib.hid hr
    have HP := Lib.hid hp
    clear hr hp
    go_wp2_with (at_next; refine wpList_next_F _ rfl _ rfl w.heap.size r s.fs left rfl HR.out (fun q hq => List.mem_map.1 (HP.out.mem_iff.1 (List.mem_append_right _ hq))) (fun hl0 => ?_) (fun i f w1 hi0 hr1 hf1 hs1 hen => ?_))
    · go_ret
      subst hl0
      refine ⟨?_, hb⟩
      have := sum_perm HP.out
      rw [List.append_nil, sumV_dmap] at this
      rw [← this]
      rfl
    · have hil := (List.getElem?_eq_some_iff.1 hi0).1
      have hr2 : RangeL (w1.alloc (.cells #[.string f.data, .int .i64 f.safe] 59)) w.heap.size r (s.fs.map fent) (left.eraseIdx i) := hr1.move (Below.heap_alloc _ _ _ hr1.lt) (Below.heap_alloc _ _ _ hr1.map.lt)
      have hperm : ((done ++ [fent f]) ++ left.eraseIdx i).Perm (s.fs.map fent) := by
        rw [List.append_assoc]
        exact ((eraseIdx_perm hi0).append_left done).trans HP.out
      have hsum : sumV (done ++ [fent f]) = sumV done + f.data.size := by simp [sumV, fent, fval, vsize, Value.cells]
      have hle : sumV (done ++ [fent f]) ≤ used s.fs := by
        have h1 := sum_perm hperm
        rw [sumV_dmap] at h1
        have h2 : sumV ((done ++ [fent f]) ++ left.eraseIdx i) = sumV (done ++ [fent f]) + sumV (left.eraseIdx i) := by rw [sumV, List.map_append, List.sum_append_nat]; rfl
        omega
      refine ⟨⟨left.eraseIdx i, done ++ [fent f], hr2, hperm, ?_, ?_⟩, ?_⟩
      · rw [hsum] at hle ⊢
        congr 1
        unfold wrap64
        omega
      · exact (((Fr.of_below (S := fun _ => False) hb).trans (hf1.mono (T := fun k => k = w.heap.size) fun _ _ h => h) fun k hk h => by omega).alloc _).to_below (Nat.le_refl _) fun _ _ h => h
      · rw [hr2.left_eq, HR.out.left_eq, List.length_eraseIdx, if_pos hil]
        omega

end Go.Proofs.Ytdogmcpmlglkfaa
