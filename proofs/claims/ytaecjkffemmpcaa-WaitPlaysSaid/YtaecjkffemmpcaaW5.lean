/- Walks of package wait: slices.Delete at its rows; Drop. -/
import Derived.Test.YtaecjkffemmpcaaW4
namespace Go.Proofs.Ytaecjkffemmpcaa
open Go.RowKit Go.Proofs.YtaecjkffemmpcaaW.PrintWords

theorem step_append_set {P : Program} {ops : Array Oper} {o : Oper} {a : Act} {w : World} {K : Act → World → Prop} {Q : Exit → Act → World → Prop} {E : Prop}
    (hg : o.guard = none) (s x : Operand) (t : TypeId) (ho : o.op = .call { callee := .builtin .append, args := #[s, x], argTypes := #[t, t] })
    (e : TypeId) (i : TypeInfo) (size : Nat) (ht : P.underlying t = some (.slice e)) (hi : P.info? e = some i) (hsize : i.size = size)
    (g n cap : Nat) (cur : Array Value) (hgc : w.heap[g]? = some (.cells cur e (0, 0))) (hs : a.eval s = .slice (some ⟨g, 0, none⟩) n cap)
    (ad : Addr) (m c : Nat) (news : List Value) (hx : a.eval x = .slice (some ad) m c) (hl : news.length = m * size) (hnews : ∀ j u, news[j]? = some u → w.cell? (ad.add j) = some u) (h1 : ∀ u ∈ news, u.oneCell' = true)
    (hroom : n + m ≤ cap) (hfit : n * size + news.length ≤ cur.size)
    (h : K (a.put o.dst (.slice (some ⟨g, 0, none⟩) (n + m) cap)) (w.setRow g (cur.toList.take (n * size) ++ news ++ cur.toList.drop (n * size + news.length)).toArray)) :
    if Region.wanted o (yielded ops a.tmps) = true then Oper.wp P o a w K Q else E := by
  rw [if_pos (by simp [Region.wanted, hg])]
  subst hsize
  have hr := run_append_room (P := P) w t o.type e i ht hi g n cap cur hgc ad m c news hl hnews h1 hroom hfit
  unfold Oper.wp execOp
  simp only [ho, resolve, invoke, builtin, Sem.run_bind, Sem.run_pure, Result.andThen_ok, List.map_toArray, List.map_cons, List.map_nil, hs, hx, hr]
  exact h

theorem run_clear_set {P : Program} (w : World) (t ty : TypeId) (E : TypeId) (ht : P.underlying t = some (.slice E)) (z : Value) (hz : (zeroValue E).run P w = .ok z w)
    (g off n c : Nat) (cur : Array Value) (hgc : w.heap[g]? = some (.cells cur E (0, 0))) (zs : List Value) (hzs : (Builtin.zeroCells z.cells (n + 1)).toList = zs) (hfit : off + zs.length ≤ cur.size) (h1 : ∀ v ∈ zs, v.oneCell' = true) :
    (Builtin.clear_ #[t] ty #[.slice (some ⟨g, off, none⟩) (n + 1) c]).run P w = .ok (.tuple #[]) (w.setRow g (cur.toList.take off ++ zs ++ cur.toList.drop (off + zs.length)).toArray) := by
  have hst := run_storeCells_at P g off E zs 0 cur w hgc (by simpa using hfit) h1
  simp only [Nat.add_zero] at hst
  simp only [Builtin.clear_, run_underlying ht, Sem.run_bind, Result.andThen_ok, List.getElem?_toArray, List.getElem?_cons_zero, hz, hzs, hst]
  rfl

theorem zero_one (w : World) : (zeroValue 57).run Try.prog w = .ok (.agg #[.string ⟨#[]⟩, .string ⟨#[]⟩, .map none]) w := by kernel_rfl

set_option maxHeartbeats 800000 in
theorem delete_any {w : World} {g n cap i : Nat} {cur : Array Value} (hg : w.heap[g]? = some (.cells cur 57)) (hsz : cur.size = cap * 3) (hi : i < n) (hn : n ≤ cap) (hcap : cap ≤ maxLen) (h1 : ∀ u ∈ cur.toList.take (n * 3), u.oneCell' = true) :
    Calls Try.prog 25 #[.slice (some ⟨g, 0, none⟩) n cap, .int .i64 i, .int .i64 (i + 1)] w fun e w' => e = .returned (.slice (some ⟨g, 0, none⟩) (n - 1) cap) ∧
      ∃ cur' : Array Value, w'.heap[g]? = some (.cells cur' 57) ∧ cur'.size = cap * 3 ∧ cur'.toList.take ((n - 1) * 3) = cur.toList.take (i * 3) ++ (cur.toList.take (n * 3)).drop ((i + 1) * 3) ∧ Fr (fun b => b = g) w w' := by
  unfold maxLen at hcap
  obtain ⟨i0, hi0, hz0, hz1, hz2⟩ := info_parts info_one
  have hlen : ((cur.toList.take (n * 3)).drop ((i + 1) * 3)).length = (n - (i + 1)) * 3 := by
    simp only [List.length_drop, List.length_take, Array.length_toList, hsz]
    omega
  obtain ⟨news, hnews⟩ : ∃ news, news = (cur.toList.take (n * 3)).drop ((i + 1) * 3) := ⟨_, rfl⟩
  rw [← hnews] at hlen
  obtain ⟨A, hA, hsrc⟩ : ∃ A : Addr, (if cap = i + 1 then some (⟨g, 0, none⟩ : Addr) else some ⟨g, (i + 1) * 3, none⟩) = some A ∧ Hid (∀ t u, news[t]? = some u → w.drew.cell? (A.add t) = some u) := by
    by_cases h : cap = i + 1
    · refine ⟨⟨g, 0, none⟩, by simp [h], fun t u hu => ?_⟩
      rw [List.eq_nil_of_length_eq_zero (l := news) (by rw [hlen]; omega)] at hu
      simp at hu
    · refine ⟨⟨g, (i + 1) * 3, none⟩, by simp [h], fun t u hu => ?_⟩
      rw [hnews, List.getElem?_drop, List.getElem?_take] at hu
      split at hu
      · have ha : (⟨g, (i + 1) * 3, none⟩ : Addr).add t = ⟨g, (i + 1) * 3 + t, none⟩ := by unfold Addr.add; split <;> simp_all
        rw [ha]
        have hg' : w.drew.heap[g]? = some (.cells cur 57) := hg
        simp only [World.cell?, hg']
        simpa using hu
      · cases hu
  have s2 : Hid (∀ u ∈ news, u.oneCell' = true) := fun u hu => h1 u (by rw [hnews] at hu; exact List.mem_of_mem_drop hu)
  have HN := Lib.hid hnews
  have HL := Lib.hid hlen
  have HG := Lib.hid hg
  have HZ := Lib.hid hsz
  clear hnews hlen hg hsz h1
  go_enter Try.func25, Try.ntmps25
  go_wp2
  have hic : i ≤ cap := by omega
  have hjn : i + 1 ≤ n := by omega
  have hjc : i + 1 ≤ cap := by omega
  have hq0 : (0 : Int) ≤ (i : Int) + 1 := by omega
  have hq1 : (i : Int) + 1 ≤ (n : Int) := by omega
  have hq2 : (((n - 1 : Nat) : Int)) ≤ (n : Int) := by omega
  have hq3 : n - 1 ≤ n := by omega
  have hq4 : cap ≠ n - 1 := by omega
  have hq5 : n - (n - 1) = 1 := by omega
  obtain ⟨cur1, hcur1⟩ : ∃ c : Array Value, c = (cur.toList.take (i * 3) ++ news ++ cur.toList.drop (i * 3 + news.length)).toArray := ⟨_, rfl⟩
  have hsz1 : cur1.size = cap * 3 := by
    rw [hcur1]
    simp only [List.size_toArray, List.length_append, List.length_take, List.length_drop, Array.length_toList, HL.out, HZ.out]
    omega
  have ht1 : cur1.toList.take ((n - 1) * 3) = cur.toList.take (i * 3) ++ news := by
    rw [hcur1]
    simp only [List.append_assoc]
    rw [← List.append_assoc]
    have hl : (cur.toList.take (i * 3) ++ news).length = (n - 1) * 3 := by
      simp only [List.length_append, List.length_take, Array.length_toList, HL.out, HZ.out]
      omega
    rw [← hl]
    exact List.take_left
  have HG1 : Hid ((w.drew.setRow g cur1).heap[g]? = some (.cells cur1 57)) := setRow_heap w.drew g cur cur1 _ _ HG.out
  have HC := Lib.hid hcur1
  have HT := Lib.hid ht1
  have HZ1 := Lib.hid hsz1
  clear hcur1 ht1 hsz1
  have hcl := fun ty => run_clear_set (P := Try.prog) (w.drew.setRow g cur1) 52 ty 57 Try.underlying52 _ (zero_one _) g ((n - 1) * 3) 0 (cap - (n - 1)) cur1 HG1.out [.string ⟨#[]⟩, .string ⟨#[]⟩, .map none] (by kernel_rfl) (by rw [HZ1.out]; simp; omega) (by simp [Value.oneCell'])
  simp only [Nat.zero_add, List.length_cons, List.length_nil, Nat.reduceAdd] at hcl
  go_region_law ((refine step_append_set rfl (.tmp 22) (.tmp 25) 52 rfl 57 i0 3 Try.underlying52 hi0 hz1 g i cap cur HG.out (by simp [Act.eval, Act.put]) A (n - (i + 1)) (cap - (i + 1)) news (by simp [Act.eval, Act.put]) HL.out hsrc.out s2.out (by omega) (by rw [HL.out, HZ.out]; omega) ?_; rw [show i + (n - (i + 1)) = n - 1 by omega, ← HC.out]))
  go_wp2_with fail
  go_ret
  refine ⟨rfl, (cur1.toList.take ((n - 1) * 3) ++ Value.string ⟨#[]⟩ :: Value.string ⟨#[]⟩ :: Value.map none :: cur1.toList.drop ((n - 1) * 3 + 3)).toArray, ?_, ?_, ?_, ?_⟩
  · exact setRow_heap _ g cur1 _ _ _ HG1.out
  · simp only [List.size_toArray, List.length_append, List.length_take, List.length_drop, Array.length_toList, HZ1.out, List.length_cons, List.length_nil]
    omega
  · rw [← HN.out, ← HT.out]
    have hl : (cur1.toList.take ((n - 1) * 3)).length = (n - 1) * 3 := by
      simp only [List.length_take, Array.length_toList, HZ1.out]
      omega
    conv => lhs; rw [← hl]
    simp
  · refine ⟨rfl, rfl, rfl, by simp [World.setRow], fun k _ hk => ?_⟩
    rw [setRow_other _ _ _ _ hk, setRow_other _ _ _ _ hk]
    rfl

def dropAt (l : List WItem) (id : ByteArray) : List WItem := if 0 ≤ findIx l id then l.eraseIdx (findIx l id).toNat else l

theorem findIx_cases (l : List WItem) (id : ByteArray) : (findIx l id = -1) ∨ ∃ i : Nat, findIx l id = i ∧ i < l.length := by
  unfold findIx
  cases h : l.findIdx? (fun x => decide (x.id = id)) with
  | none => exact .inl rfl
  | some i =>
    rw [List.findIdx?_eq_some_iff_getElem] at h
    exact .inr ⟨i, rfl, h.1⟩

theorem wcells_erase : ∀ {l : List WItem} {rs : List Nat} {i : Nat}, rs.length = l.length → i < l.length → wcells (l.eraseIdx i) (rs.eraseIdx i) = (wcells l rs).take (i * 3) ++ (wcells l rs).drop ((i + 1) * 3)
  | [], _, i, _, h => by simp at h
  | _ :: _, [], _, h, _ => by simp at h
  | x :: l, r :: rs, 0, h, _ => by simp [wcells]
  | x :: l, r :: rs, i + 1, h, hi => by
    simp only [List.length_cons, Nat.add_right_cancel_iff, Nat.add_lt_add_iff_right] at h hi
    have e1 : (i + 1) * 3 = i * 3 + 1 + 1 + 1 := by omega
    have e2 : (i + 1 + 1) * 3 = (i + 1) * 3 + 1 + 1 + 1 := by omega
    rw [e2]
    simp only [List.eraseIdx_cons_succ, wcells, List.drop_succ_cons, wcells_erase h hi]
    rw [e1]
    simp

theorem wcells_one : ∀ {l : List WItem} {rs : List Nat}, ∀ u ∈ wcells l rs, u.oneCell' = true
  | [], _, u, h => by simp [wcells] at h
  | _ :: _, [], u, h => by simp [wcells] at h
  | x :: l, r :: rs, u, h => by
    simp only [wcells, List.mem_cons] at h
    rcases h with rfl | rfl | rfl | h
    · rfl
    · rfl
    · rfl
    · exact wcells_one u h

theorem WRep.move_F {w : World} {F G : Nat → Prop} {p : Nat} {places : Int} {l : List WItem} (h : WRep w F p places l) (hF : ∀ b, F b → G b) : WRep w G p places l := by
  obtain ⟨v, rs, h1, h2, h3, h4, h5, h6, h7⟩ := h
  exact ⟨v, rs, h1, hF _ h2, fun k hk => ⟨hF _ (h3 k hk).1, (h3 k hk).2⟩, h4, h5, h6, fun i r x hi hx => ⟨hF _ (h7 i r x hi hx).1, (h7 i r x hi hx).2⟩⟩

theorem drop_nil (id : ByteArray) (w : World) :
    Calls Try.prog 16 #[.pointer none, .string id] w fun e w' => e = .returned (.bool false) ∧ Below w.heap.size w w' := by
  go_enter Try.func16, Try.ntmps16
  go_wp2_with (go_at_call 24; refine (find_nil id _).mono ?_; rintro e w' ⟨rfl, hb'⟩)
  go_ret
  exact ⟨rfl, hb'⟩

/-- The room behind a Drop that has struck the place i. -/
theorem drop_fin {w w' w2 : World} {F : Nat → Prop} {p g n cap i : Nat} {places : Int} {l : List WItem} {rs : List Nat} {cur cur' : Array Value}
    (h1 : w.heap[p]? = some (.cells #[.int .i64 places, .slice (some ⟨g, 0, none⟩) n cap] 54)) (h2 : F p) (h3 : F g ∧ g ≠ p) (hg : w.heap[g]? = some (.cells cur 57)) (hn : n = l.length) (hnc : n ≤ cap) (hcap : cap ≤ maxLen) (ht : cur.toList.take (n * 3) = wcells l rs)
    (h5 : rs.length = l.length) (h6 : rs.Nodup) (h7 : ∀ (i r : Nat) (x : WItem), rs[i]? = some r → l[i]? = some x → F r ∧ MapL w r (mset x.miss)) (hi : i < l.length)
    (hb' : Below w.heap.size w w') (hg2 : w2.heap[g]? = some (.cells cur' 57)) (hz2 : cur'.size = cap * 3) (ht2 : cur'.toList.take ((n - 1) * 3) = cur.toList.take (i * 3) ++ (cur.toList.take (n * 3)).drop ((i + 1) * 3)) (hf2 : Fr (fun b => b = g) w' w2) :
    WRep (w2.setCell ⟨p, 1, none⟩ (.slice (some ⟨g, 0, none⟩) (n - 1) cap)) F p places (l.eraseIdx i) ∧ Fr F w (w2.setCell ⟨p, 1, none⟩ (.slice (some ⟨g, 0, none⟩) (n - 1) cap)) := by
  have hp : p < w.heap.size := (Array.getElem?_eq_some_iff.1 h1).1
  have hs1 := hb'.size
  have hf : Fr (fun b => b = g) w w2 := (Fr.of_below hb').trans hf2 (fun i _ h => h)
  have hel : (l.eraseIdx i).length = n - 1 := by rw [List.length_eraseIdx, if_pos hi, hn]
  refine ⟨⟨.slice (some ⟨g, 0, none⟩) (n - 1) cap, rs.eraseIdx i, ?_, h2, ?_, ?_, ?_, ?_, ?_⟩, ?_⟩
  · exact setCell_row _ ((hf.block p hp (fun e => h3.2 e.symm)).trans h1)
  · intro k hk
    simp only [Value.ownBlock, Option.some.injEq] at hk
    subst hk
    exact h3
  · rw [hel]
    have hcut : cur.toList.take (i * 3) = (wcells l rs).take (i * 3) := by
      rw [← ht, List.take_take]
      congr 1
      omega
    refine ⟨?_, .inr ⟨g, cap, cur', rfl, Nat.zero_le _, ?_, by omega, hcap, hz2, ?_⟩⟩
    · rw [wcells_length (by rw [List.length_eraseIdx, List.length_eraseIdx, h5]), hel]
    · rw [Below.heap_setCell _ _ _ _ h3.2]
      exact hg2
    · rw [ht2, ht, hcut, ← wcells_erase h5 hi]
  · rw [List.length_eraseIdx, List.length_eraseIdx, h5]
  · exact (List.eraseIdx_sublist rs i).nodup h6
  · intro j r x hj hx
    obtain ⟨j', e1, e2⟩ : ∃ j', rs[j']? = some r ∧ l[j']? = some x := by
      rw [List.getElem?_eraseIdx] at hj hx
      split at hj
      · exact ⟨j, hj, by rwa [if_pos (by assumption)] at hx⟩
      · exact ⟨j + 1, hj, by rwa [if_neg (by assumption)] at hx⟩
    obtain ⟨a1, a2⟩ := h7 j' r x e1 e2
    have hrp : r ≠ p := fun e => by subst e; exact a2.not_cells h1
    have hrg : r ≠ g := fun e => by subst e; exact a2.not_cells hg
    refine ⟨a1, a2.move ?_⟩
    rw [Below.heap_setCell _ _ _ _ hrp]
    exact hf.block r a2.lt hrg
  · exact (hf.mono fun i _ h => h ▸ h3.1).setCell (.inr h2) _

set_option maxHeartbeats 800000 in
theorem drop_any {w : World} {F : Nat → Prop} {p : Nat} {places : Int} {l : List WItem} (id : ByteArray) (h : WRep w F p places l) (hm : l.length ≤ 1000) :
    Calls Try.prog 16 #[.pointer (some ⟨p, 0, none⟩), .string id] w fun e w' => e = .returned (.bool (hasIx l id)) ∧ WRep w' F p places (dropAt l id) ∧ Fr F w w' := by
  have hp := h.lt
  have h' := h
  obtain ⟨v, rs, h1, h2, h3, h4, h5, h6, h7⟩ := h'
  rcases findIx_cases l id with hix | ⟨i, hix, hil⟩
  · have hd : hasIx l id = false := by simp [hasIx, hix]
    have hda : dropAt l id = l := by simp [dropAt, hix]
    rw [hd, hda]
    have HIX := Lib.hid hix
    have H := Lib.hid h
    clear h h1 h2 h3 h4 h5 h6 h7 hix hd hda
    go_enter Try.func16, Try.ntmps16
    go_wp2_with (go_at_call 24; refine (find_any id H.out (by unfold maxLen; omega)).mono ?_; rintro e w' ⟨rfl, hb'⟩; rw [HIX.out])
    go_ret
    exact ⟨rfl, H.out.below hb', Fr.of_below hb'⟩
  · have hd : hasIx l id = true := by simp [hasIx, hix]
    have hda : dropAt l id = l.eraseIdx i := by simp [dropAt, hix]
    rw [hd, hda]
    obtain ⟨g, cap, cur, rfl, hbg, hg, hn, hcap, hcs, htk⟩ : ∃ g cap cur, v = .slice (some ⟨g, 0, none⟩) l.length cap ∧ 0 ≤ g ∧ w.heap[g]? = some (.cells cur 57 (0, 0)) ∧ l.length ≤ cap ∧ cap ≤ maxLen ∧ cur.size = cap * 3 ∧ cur.toList.take (l.length * 3) = wcells l rs := by
      rcases h4.2 with ⟨_, h0⟩ | h4
      · omega
      · exact h4
    have hgl : g < w.heap.size := (Array.getElem?_eq_some_iff.1 hg).1
    have hgp := h3 g rfl
    have hcap' := hcap
    unfold maxLen at hcap'
    have HIX := Lib.hid hix
    have H := Lib.hid h
    have H1 := Lib.hid h1
    have H2 := Lib.hid h2
    have H5 := Lib.hid h5
    have H6 := Lib.hid h6
    have H7 := Lib.hid h7
    have HG := Lib.hid hg
    have HS := Lib.hid hcs
    have HT := Lib.hid htk
    have HGP := Lib.hid hgp
    have HGN : Hid (p ≠ g) := fun e => HGP.out.2 e.symm
    obtain ⟨k0, k1, kf⟩ := WRep.cell0 h1
    clear h h1 h2 h3 h4 h5 h6 h7 hix hd hda hg hcs htk hgp k0
    go_enter Try.func16, Try.ntmps16
    go_wp2_with (first
      | (go_at_call 24; refine (find_any id H.out (by unfold maxLen; omega)).mono ?_; rintro e w' ⟨rfl, hb'⟩; rw [HIX.out]; have c1 := (hb'.cell (p := ⟨p, 1, none⟩) hp).trans k1)
      | (go_at_call 25; refine (delete_any ((hb'.block g hgl).trans HG.out) HS.out hil (by omega) hcap (by rw [HT.out]; exact wcells_one)).mono ?_; rintro e w2 ⟨rfl, cur', hg2, hz2, ht2, hf2⟩; have H2G := Lib.hid hg2; have H2Z := Lib.hid hz2; have H2T := Lib.hid ht2; clear hg2 hz2 ht2; obtain ⟨d0, d1, df⟩ := WRep.cell0 ((hf2.block p (Nat.lt_of_lt_of_le hp hb'.size) HGN.out).trans ((hb'.block p hp).trans H1.out)); have df1 := df 1; clear df))
    go_ret
    exact ⟨rfl, drop_fin H1.out H2.out HGP.out HG.out rfl (by omega) hcap HT.out H5.out H6.out H7.out hil hb' H2G.out H2Z.out H2T.out hf2⟩

end Go.Proofs.Ytaecjkffemmpcaa
