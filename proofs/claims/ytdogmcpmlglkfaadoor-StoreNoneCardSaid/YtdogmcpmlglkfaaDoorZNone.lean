/- StoreNone, proved (the tied card): without a disk there is no store, and of none nothing comes. For every act, without a condition. -/
import Derived.Test.YtdogmcpmlglkfaaDoorZD

namespace Go.Proofs.YtdogmcpmlglkfaaDoor
open Go.RowKit Go.Proofs.YtdogmcpmlglkfaaDoorW.PrintWords Go.Proofs.YtdogmcpmlglkfaaDoor.PRef

theorem act11_row {w : World} {g : Nat} {x : Act11} (h : w.heap[g]? = some (.cells #[.int .i64 x.f0, .string x.f1, .int .i64 x.f2] 48)) : Kd.C k48 w (some ⟨g, 0, none⟩) 1 [x] := by
  refine ⟨rfl, by simp, fun _ => ⟨_, rfl, fun j p hj => ⟨[.int .i64 p.f0, .string p.f1, .int .i64 p.f2], rfl, k48_mk w p, fun i u hi => ?_⟩⟩⟩
  have hj0 : j = 0 := by
    have := (List.getElem?_eq_some_iff.1 hj).1
    simp at this
    exact this
  subst hj0
  simp only [List.getElem?_cons_zero, Option.some.injEq] at hj
  subst hj
  show w.cell? ((⟨g, 0, none⟩ : Addr).add (0 * 3 + i)) = _
  rw [addk']
  simp only [World.cell?, h]
  rw [show 0 + (0 * 3 + i) = i by omega, ← Array.getElem?_toList]
  exact hi

set_option maxHeartbeats 2000000 in
set_option maxRecDepth 100000 in
theorem snone_walk (x : Act11) (w : World) :
    Calls Tryd.prog 6 #[.agg #[.int .i64 x.f0, .string x.f1, .int .i64 x.f2]] w fun e w' => e = .returned (.bool true) ∧ Below w.heap.size w w' := by
  have HG := Lib.hid (fun (W : World) (g : Nat) (h : W.heap[g]? = some (.cells #[.int .i64 x.f0, .string x.f1, .int .i64 x.f2] 48)) => great11_calls (c := 1) (act11_row h) (Nat.le_refl 1))
  obtain ⟨k, t, n⟩ := x
  simp only at HG ⊢
  obtain ⟨w1, hw1⟩ : ∃ w1, w1 = w.alloc (.cells #[.int .i64 k, .string t, .int .i64 n] 48) := ⟨_, rfl⟩
  have hb1 : Below w.heap.size w w1 := by rw [hw1]; exact ba_size _ _ _
  have hblk : w1.heap[w.heap.size]? = some (.cells #[.int .i64 k, .string t, .int .i64 n] 48) := by rw [hw1]; exact heap_alloc_new _ _
  obtain ⟨c0, c1, c2⟩ := box3 hblk
  have HW1 := Lib.hid hw1
  have HBLK := Lib.hid hblk
  have HB1 := Lib.hid hb1
  clear hw1 hblk hb1
  obtain ⟨r, hsm, hgr⟩ := HG.out (w1.alloc (.cells #[.int .i64 k, .string t, .int .i64 n] 48)) w1.heap.size (heap_alloc_new _ _)
  have HGR := Lib.hid hgr
  clear hgr HG
  go_enter Tryd.func6, Tryd.ntmps6
  go_upto_region 1 with fail
  rw [← HW1.out]
  cases r with
  | true =>
    go_wp2_with (first
      | (go_at_call 17; refine HGR.out.mono ?_; rintro e w2 ⟨rfl, hd⟩; have HB2 := Lib.hid ((HB1.out.alloc HB1.out.size _).trans (hd.below.mono (by rw [asz]; have := HB1.out.size; omega))); clear hd)
      | (go_at_call 8; refine (awake11 _).mono ?_; rintro e w3 ⟨rfl, hb3⟩))
    go_ret
    exact ⟨rfl, HB2.out.trans (hb3.mono HB2.out.size)⟩
  | false =>
    have hs := (hsm rfl).2 _ (List.mem_singleton.2 rfl)
    have hs1 : t.size ≤ 1000000 := by simp only at hs; omega
    have HDO := Lib.hid (do11_nil k t n hs1)
    clear hs hsm
    go_wp2_with (first
      | (go_at_call 17; refine HGR.out.mono ?_; rintro e w2 ⟨rfl, hd⟩; have hx2 := ((Below.refl w1.heap.size w1).alloc (Nat.le_refl _) _).trans (hd.below.mono (by rw [asz]; omega)); have d0 := (hx2.cell (World.block_lt_of_cell? _ _ c0)).trans c0; have d1 := (hx2.cell (World.block_lt_of_cell? _ _ c1)).trans c1; have d2 := (hx2.cell (World.block_lt_of_cell? _ _ c2)).trans c2; have HB2 := Lib.hid (HB1.out.trans (hx2.mono HB1.out.size)); clear hd hx2 c0 c1 c2)
      | (go_at_call 12; refine (storeOpen_nil _).mono ?_; rintro e w3 ⟨rfl, rfl⟩)
      | (go_at_call 19; refine (HDO.out _).mono ?_; rintro e w4 ⟨rfl, hb4⟩; have HB4 := Lib.hid (HB2.out.trans (hb4.mono HB2.out.size)); clear hb4)
      | (go_at_call 16; refine (state_nil _).mono ?_; rintro e w5 ⟨rfl, hb5⟩; have HB5 := Lib.hid (HB4.out.trans (hb5.mono HB4.out.size)); clear hb5)
      | (go_at_call 15; refine (as_row _ _ _ _ _ _ _ _ _).mono ?_; rintro e w6 ⟨rfl, hb6⟩; have HB6 := Lib.hid (HB5.out.trans (hb6.mono HB5.out.size)); clear hb6)
      | (go_at_call 14; refine (same_any (sval_zero _) (sval_zero _)).mono ?_; rintro e w7 ⟨rfl, hb7⟩; rw [sameB_self]; have HB7 := Lib.hid (HB6.out.trans (hb7.mono HB6.out.size)); clear hb7)
      | (go_at_call 8; refine (awake11 _).mono ?_; rintro e w8 ⟨rfl, hb8⟩; have HB8 := Lib.hid (HB7.out.trans (hb8.mono HB7.out.size)); clear hb8))
    go_ret
    exact ⟨rfl, HB8.out⟩

end Go.Proofs.YtdogmcpmlglkfaaDoor

namespace Go.Proofs.YtdogmcpmlglkfaaDoor
open Go.ChangeShapes Go.WideShapes Go.ChangeAt Go.RowKit Go.Proofs.YtdogmcpmlglkfaaDoorW.PrintWords Go.Proofs.YtdogmcpmlglkfaaDoor.PRef

set_option maxRecDepth 100000 in
theorem storeNone_lifted (os : Os) (started : os.Started) (H : Type) (enc : TypeId × Value → H) :
    ReturnsInHanded {} Tryd.checked os 6 .any (fun w args => (Rows.storeNoneSpec.pre enc Tryd.prog Tryd.f6 [] false w args ∧ laidMetH Tryd.prog laid3 w) ∧ sizedMet enc Tryd.prog Tryd.f6 (OpenSpec.ofChange Rows.storeNoneSpec) false w args)
      (Rows.storeNoneSpec.post enc Tryd.prog Tryd.f6 false true false false) := by
  refine returnsInHanded_of_change_and (C := Tryd.checked) (X := fun w _ => laidMetH Tryd.prog laid3 w) (fun _ _ _ hh h => h.of_heap hh) own0 started (by kernel_rfl) Tryd.func6
    (ChangeSpec.witness_shaped (enc := enc) (C := Tryd.checked) (os := os) (X := fun w _ => laidMetH Tryd.prog laid3 w) false (World.doorLaid Tryd.prog 24 os) #[.agg #[.int .i64 0, .string ByteArray.empty, .int .i64 0]] 8 rfl (World.shaped_of_RefB (by kernel_rfl) (by kernel_rfl)) (by kernel_rfl) (by kernel_rfl) (by kernel_rfl) (door_met os _)) ?_
  intro W base args ds gs before hval0 hW _ _ _ _
  have hval : ∀ (j : Nat) t v, Tryd.f6.params[j]? = some t → args[j]? = some v → Value.okWide Tryd.prog W .any base t v := hval0
  have hW' := hW
  obtain ⟨p, q, hA0, hV, rfl, hfz, hnd⟩ := hW
  have hA : DataW.TrodAll enc Tryd.prog W 0 (fun _ => true) true Tryd.f6.params.toList args.toList ds p := hA0
  rw [Tryd.params6] at hA hval
  obtain ⟨v0, vs0, d0, ds0, p0, q0, hargs, rfl, rfl, h0, r0⟩ := trodAll_cons hA
  obtain ⟨rfl, rfl, rfl⟩ := trodAll_nil r0
  obtain rfl : args = #[v0] := by cases args; simp_all
  obtain ⟨rfl, rfl⟩ := trodVars_none hV
  obtain ⟨cs0, rfl, hcs0⟩ := okWide_struct Tryd.underlying48 (hval 0 48 v0 rfl rfl)
  have k0 := h0
  have lt0 : ∀ x ∈ p0, x.block < W.heap.size := by obtain ⟨m, hm⟩ := k0; exact DataW.trod_lt m _ _ _ hm
  obtain ⟨m0, hm0⟩ := h0
  obtain ⟨x0, hy0, _⟩ := act11_opens enc W _ _ m0 _ _ hm0
  have hx0 : k48.K W x0 cs0.toList := hy0
  have hk0 := k48_open hx0
  obtain rfl : cs0 = #[.int .i64 x0.f0, .string x0.f1, .int .i64 x0.f2] := by cases cs0; simp_all
  clear hA0 hval0
  refine (snone_walk x0 W).mono fun e W' ⟨he, bel⟩ => ?_
  subst he
  exact ⟨_, rfl, _, _, _, [], _, [], hW', trodAll_mk1 (shut_bool Tryd.underlying4 _), (trodAll_cons_mk (Below.trod laid (by kernel_rfl) (of_decide_eq_true (by kernel_rfl)) k0 bel lt0) trodAll_mk0), rfl, bel.frame _, fun h => by cases h⟩

theorem storeNone_over : Rows.storeNoneRow.holds Tryd.pinned (OpenSpec.ofChange Rows.storeNoneSpec) :=
  OpenClaim.holds_of_wide 6 Tryd.f6 rfl rfl rfl rfl rfl rfl rfl ⟨rfl, rfl, rfl, rfl, rfl⟩ rfl rfl rfl rfl rfl (by kernel_rfl) Tryd.func6 (by kernel_rfl)
    (of_decide_eq_true (by kernel_rfl)) (by unfold Func.isWrapper; first | (rw [if_pos (by decide +kernel)]; kernel_rfl) | (rw [if_neg (by decide +kernel)]; exact ⟨rfl, rfl⟩))
    (fun os started H enc _ => storeNone_lifted os started H enc)

/-- The tied card. -/
theorem storeNone_holds : Rows.StoreNoneCardSaid :=
  Claim7.holds_tied_plain_at .later [] [.data, .data, .data] true (true, "a5c72920e2d8d871e44f861bacea2d9b9941351a971a0a9d7a99f6218acb976c") false
    storeNone_over (fun _ h => by cases h) (by kernel_rfl) (fun _ h => by cases h) storeNone_row_tie rfl ⟨rfl, rfl⟩ (by kernel_rfl) rfl
    (fun f fn hf hfn => by
      obtain rfl : f = 6 := Option.some.inj ((show Tryd.prog.funcNamed "palaver/palaverlaw11.StoreNone" = some 6 by kernel_rfl).symm.trans hf) |>.symm
      obtain rfl : fn = Tryd.f6 := (Option.some.inj (Tryd.func6.symm.trans hfn)).symm
      exact ⟨by kernel_rfl, fun j t ht => by
        rw [Tryd.params6] at ht
        have hm : t ∈ [48] := by simpa using Array.mem_of_getElem? ht
        have hall : ([48].all fun u => !Tryd.prog.wantsStandIn u) = true := by kernel_rfl
        exact (show Tryd.prog.wantsStandIn t = false by simpa using List.all_eq_true.1 hall t hm)⟩)
    (by kernel_rfl)
#print axioms storeNone_holds

end Go.Proofs.YtdogmcpmlglkfaaDoor
