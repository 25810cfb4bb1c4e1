/- StoreOpens, proved (the tied card): of any records the state; or that one is none. For every input, without a condition. -/
import Derived.Test.YtdogmcpmlglkfaaDoorZD

namespace Go.Proofs.YtdogmcpmlglkfaaDoor
open Go.RowKit Go.Proofs.YtdogmcpmlglkfaaDoorW.PrintWords Go.Proofs.YtdogmcpmlglkfaaDoor.PRef

/-- A log that stands. -/
def Log11 (w : World) (q p r m u : Nat) (rm : Int) (recs : List ByteArray) : Prop := ∃ D L segs, LogRep w q p L ∧ DRep w p r D ∧ LInv m u D L segs ∧ segs.flatten = recs ∧ D.armed = false ∧ D.room = rm

theorem log_new {w : World} {p r : Nat} {rm : Int} (hd : DRep w p r ⟨rm, false, 0, false, []⟩) (h0 : 0 ≤ rm) (h1 : rm ≤ 4194304) :
    Calls Tryd.prog 10 #[.pointer (some ⟨p, 0, none⟩), .string room] w fun e w' => ∃ q v, e = .returned (.tuple #[.pointer (some ⟨q, 0, none⟩), v, .int .i64 0]) ∧ w.heap.size ≤ q ∧ Log11 w' q p r 0 0 rm [] ∧ BFr w.heap.size p r w w' := by
  refine (logOpen_any room hd (fresh_ok h0 h1) (by rw [room_size]; omega) (open_cap room_le (fresh_datas rm) rfl rfl (Nat.zero_le _) (fun _ h => by cases h) tail_nil (Nat.zero_le _))).mono ?_
  rintro e w' ⟨x, D', L', all, hend, hd', hf, hx⟩
  obtain ⟨rfl, rfl, h3⟩ := openEnd_of room_le (fresh_datas rm) rfl rfl (Nat.zero_le _) (fun _ h => by cases h) tail_nil hend
  obtain ⟨rfl, rfl⟩ := h3 rfl
  rcases hx with ⟨_, q, v, hq, rfl, hlog, _⟩ | ⟨hc, _⟩
  · refine ⟨q, v, rfl, hq, ⟨_, _, [], hlog, hd', ?_, rfl, rfl, rfl⟩, hf⟩
    exact ⟨rfl, rfl, (fun rs h => by cases h), ⟨Int.le_refl 0, Int.le_refl 0⟩, rfl, (fun n _ => rfl), Nat.le_refl _, rfl, fresh_ok h0 h1, (fun _ h => by cases h), Nat.le_refl _, Nat.le_refl _, ⟨Int.le_refl 0, Int.le_refl 0⟩⟩
  · exact absurd rfl hc

theorem log_step {w : World} {q p r m u : Nat} {rm : Int} {recs : List ByteArray} (rec : ByteArray) (h : Log11 w q p r m u rm recs) (hm : m ≤ 80) (hs : rec.size ≤ 65535) (hu : ((u + (8 + rec.size) : Nat) : Int) ≤ rm) (hrm : rm ≤ 4194304) :
    Calls Tryd.prog 11 #[.pointer (some ⟨q, 0, none⟩), .string rec] w fun e w' => e = .returned (.int .i64 0) ∧ Log11 w' q p r (m + 1) (u + (8 + rec.size)) rm (recs ++ [rec]) ∧ LFr p r q w w' := by
  obtain ⟨D, L, segs, hl, hd, hi, hf, ha, rfl⟩ := h
  refine (logApp_any rec hl hd (hi.lok hm (by omega)) hi.ok).mono ?_
  rintro e w' ⟨h1, h2, h3, h4⟩
  rcases logApp_of hi hm hs hu with ⟨L', D', segs', e1, e2, e3, e4, e5⟩ | ⟨hc, _⟩
  · rw [e1] at h1 h2 h3
    exact ⟨h1, ⟨D', L', segs', h2, h3, e2, by rw [e3, hf], e4.trans ha, e5⟩, h4⟩
  · rw [ha] at hc; cases hc

theorem log_open {w : World} {q p r m u : Nat} {rm : Int} {recs : List ByteArray} (h : Log11 w q p r m u rm recs) (hm : m ≤ 80) :
    Calls Tryd.prog 12 #[.pointer (some ⟨p, 0, none⟩)] w fun e w' => ∃ a c, e = .returned (.tuple #[.pointer a, .int .i64 c]) ∧ BFr w.heap.size p r w w' ∧
      ((∃ S C g q, takesL s0 recs = some S ∧ a = some ⟨g, 0, none⟩ ∧ c = 0 ∧ StRep w' C g q S) ∨ (takesL s0 recs = none ∧ a = none ∧ c = 2)) := by
  obtain ⟨D, L, segs, hl, hd, hi, rfl, ha, rfl⟩ := h
  exact open_segs hd hi.ok hi.files.datas hi.off ha (by have := hi.lens; omega) hi.small tail_nil (by have := hi.len; omega)

theorem LFr.to_below {w0 w w' : World} {p r q : Nat} (h : LFr p r q w w') (h0 : Below w0.heap.size w0 w) (hp : w0.heap.size ≤ p) (hr : w0.heap.size ≤ r) (hq : w0.heap.size ≤ q) : Below w0.heap.size w0 w' :=
  h0.trans ⟨h.os, h.tape, h.output, h.size, fun k hk => h.block k (by have := h0.size; omega) (by rintro (e | e | e) <;> omega)⟩

theorem keep4B {wc x y : World} {g : Nat} {u0 u1 u2 u3 : Value} (h0 : x.cell? ⟨g, 0, none⟩ = some u0) (h1 : x.cell? ⟨g, 1, none⟩ = some u1) (h2 : x.cell? ⟨g, 2, none⟩ = some u2) (h3 : x.cell? ⟨g, 3, none⟩ = some u3) (h : Below wc.heap.size wc x) (hb : Below x.heap.size x y) :
    y.cell? ⟨g, 0, none⟩ = some u0 ∧ y.cell? ⟨g, 1, none⟩ = some u1 ∧ y.cell? ⟨g, 2, none⟩ = some u2 ∧ y.cell? ⟨g, 3, none⟩ = some u3 ∧ Below wc.heap.size wc y :=
  ⟨(hb.cell (World.block_lt_of_cell? _ _ h0)).trans h0, (hb.cell (World.block_lt_of_cell? _ _ h1)).trans h1, (hb.cell (World.block_lt_of_cell? _ _ h2)).trans h2, (hb.cell (World.block_lt_of_cell? _ _ h3)).trans h3, h.trans (hb.mono h.size)⟩

set_option maxHeartbeats 4000000 in
set_option maxRecDepth 100000 in
theorem sopens_walk (A : Option Addr) (c : Nat) (recs : List ByteArray) (w : World) (hc : recs.length ≤ c) (hr : Kd.C Kd.string w A recs.length recs) :
    Calls Tryd.prog 3 #[.slice A recs.length c] w fun e w' => e = .returned (.bool true) ∧ Below w.heap.size w w' := by
  have HR := Lib.hid hr
  clear hr
  by_cases hbig : 30 < recs.length
  · go_enter Tryd.func3, Tryd.ntmps3
    go_wp2_with (go_at_call 8; refine (awake11 _).mono ?_; rintro e w2 ⟨rfl, hb2⟩)
    go_ret
    exact ⟨rfl, hb2⟩
  · go_enter Tryd.func3, Tryd.ntmps3
    go_wp2_with (first
      | (go_at_call 8; refine (awake11 _).mono ?_; rintro e w1 ⟨rfl, hb1⟩; have HB1 := Lib.hid hb1; clear hb1)
      | (go_at_call 9; refine (new_ok 1048576 _ (by omega) (by omega)).mono ?_; rintro e w2 ⟨p, r, rfl, hd2, hp0, hr0, hb2⟩; have hp := Nat.le_trans HB1.out.size hp0; have hr := Nat.le_trans HB1.out.size hr0; have HD2 := Lib.hid hd2; have HB2 := Lib.hid (HB1.out.trans (hb2.mono HB1.out.size)); clear hd2 hb2 hp0 hr0)
      | (go_at_call 10; refine (log_new HD2.out (by omega) (by omega)).mono ?_; rintro e w3 ⟨q, v, rfl, hq0, hl3, hf3⟩; have hq := Nat.le_trans HB2.out.size hq0; have HL3 := Lib.hid hl3; have HB3 := Lib.hid (hf3.to_below HB2.out hp hr HB2.out.size); clear hl3 hf3 hq0))
    go_loopw [7] (fun iv wr => ∃ j u : Nat, iv = .int .i64 j ∧ j ≤ recs.length ∧ u ≤ 1008 * j ∧ Log11 wr q p r j u 1048576 (recs.take j) ∧ Below w.heap.size w wr) (fun iv _ => recs.length - (intOf iv).toNat)
    case atStart => exact ⟨0, 0, rfl, Nat.zero_le _, Nat.le_refl _, HL3.out, HB3.out⟩
    case round =>
      obtain ⟨j, u, rfl, hj, hu, hlr, hbr⟩ := hrel
      have HLR := Lib.hid hlr
      have HBR := Lib.hid hbr
      clear HL3 HB3 HD2 HB2 hlr
      by_cases hlt : j < recs.length
      · obtain ⟨ad, rfl, hcell⟩ := at_str (Kd.C_below HR.out hbr) hlt
        obtain ⟨rec, hrec⟩ : ∃ rec, rec = recs[j] := ⟨_, rfl⟩
        rw [← hrec] at hcell
        have HREC := Lib.hid hrec
        clear hbr hrec
        by_cases hs : 1000 < rec.size
        · go_wp2_with fail
          go_ret
          exact ⟨rfl, HBR.out⟩
        · have HST := Lib.hid (log_step rec HLR.out (by omega) (by omega) (by omega) (by omega))
          go_wp2_with (go_at_call 11; refine HST.out.mono ?_; rintro e w4 ⟨rfl, hl4, hf4⟩; have HL4 := Lib.hid hl4; have HB4 := Lib.hid (hf4.to_below HBR.out hp hr hq); clear hl4 hf4)
          exact ⟨⟨j + 1, u + (8 + rec.size), by go_num, by omega, by omega, by rw [List.take_succ_eq_append_getElem hlt, ← HREC.out]; exact HL4.out, HB4.out⟩, by simp [intOf]; omega⟩
      · obtain rfl : j = recs.length := by omega
        rw [List.take_length] at HLR
        have HOP := Lib.hid (log_open HLR.out (by omega))
        clear hbr
        go_upto_region 15 with (go_at_call 12; refine HOP.out.mono ?_; rintro e w4 ⟨a4, c4, rfl, hf4, hx4⟩; have HX4 := Lib.hid hx4; have HB4 := Lib.hid (hf4.to_below HBR.out hp hr HBR.out.size); clear hx4 hf4)
        have HRR := Lib.hid (Kd.C_below HR.out HB4.out)
        rcases HX4.out with ⟨S, C, g, q', hS, rfl, rfl, hst⟩ | ⟨hN, rfl, rfl⟩
        · have hof := of_any HRR.out hc (by omega)
          have hS0 : ofS recs = S := by rw [ofS, hS]; rfl
          rw [hS, hS0] at hof
          have HOF := Lib.hid hof
          have hlen := takesL_len hS
          have HST := Lib.hid hst
          clear hof hS hS0 hst HX4
          go_upto_region 16 with (go_at_call 13; refine HOF.out.mono ?_; rintro e w5 ⟨v5, rfl, hv5, _, hb5⟩; obtain ⟨A5, c5, A6, c6, rfl, hx5⟩ := hv5.out; have HV5 := Lib.hid hv5; have HST5 := Lib.hid (HST.out.below hb5); have HB5 := Lib.hid (HB4.out.trans (hb5.mono HB4.out.size)); clear hv5 hb5 hx5)
          obtain ⟨wz, hwz⟩ : ∃ wz, wz = w5.alloc (.cells #[.string S.room, .slice A5 S.events.length c5, .int .i64 S.used, .slice A6 S.queue.length c6] 35) := ⟨_, rfl⟩
          have hbz : Below w5.heap.size w5 wz := by rw [hwz]; exact ba_size _ _ _
          have hblk : wz.heap[w5.heap.size]? = some (.cells #[.string S.room, .slice A5 S.events.length c5, .int .i64 S.used, .slice A6 S.queue.length c6] 35) := by rw [hwz]; exact heap_alloc_new _ _
          obtain ⟨d0, d1, d2, d3, _⟩ := box4f hblk
          have HVZ := Lib.hid (HV5.out.below hbz)
          have HSZ := Lib.hid (HST5.out.below hbz)
          have HBZ := Lib.hid (HB5.out.trans (hbz.mono HB5.out.size))
          rw [← hwz]
          clear hwz hblk hbz
          simp only [s0, List.length_nil] at hlen
          have hbx := (Below.refl wz.heap.size wz).drew
          have x0 : wz.drew.cell? ⟨w5.heap.size, 0, none⟩ = some (.string S.room) := d0
          have x1 : wz.drew.cell? ⟨w5.heap.size, 1, none⟩ = some (.slice A5 S.events.length c5) := d1
          have x2 : wz.drew.cell? ⟨w5.heap.size, 2, none⟩ = some (.int .i64 S.used) := d2
          have x3 : wz.drew.cell? ⟨w5.heap.size, 3, none⟩ = some (.slice A6 S.queue.length c6) := d3
          go_upto_region 18 with fail
          go_region_held3 (fun x => x.cell? ⟨w5.heap.size, 0, none⟩ = some (.string S.room) ∧ x.cell? ⟨w5.heap.size, 1, none⟩ = some (.slice A5 S.events.length c5) ∧ x.cell? ⟨w5.heap.size, 2, none⟩ = some (.int .i64 S.used) ∧ x.cell? ⟨w5.heap.size, 3, none⟩ = some (.slice A6 S.queue.length c6) ∧ Below wz.heap.size wz x) (first | (refine ⟨?_, ?_, ?_, ?_, ?_⟩ <;> assumption) | go_keep)
            (first
              | (go_at_call 16; refine (state_own (HSZ.out.below ?_) ⟨?_, ?_⟩).mono ?_; assumption; omega; omega; rintro e w7 ⟨v7, rfl, hv7, _, hb7⟩; obtain ⟨y0, y1, y2, y3, hx7⟩ := keep4B (g := w5.heap.size) (by assumption) (by assumption) (by assumption) (by assumption) (by assumption) hb7)
              | (go_at_call 15; refine (as_any hv7).mono ?_; rintro e w8 ⟨rfl, hb8⟩; have hv8 := hv7.below hb8; obtain ⟨z0, z1, z2, z3, hx8⟩ := keep4B (g := w5.heap.size) (by assumption) (by assumption) (by assumption) (by assumption) (by assumption) hb8)
              | (go_at_call 14; refine (same_any hv8 (HVZ.out.below ?_)).mono ?_; assumption; rintro e w9 ⟨rfl, hb9⟩; rw [sameB_self]; obtain ⟨t0, t1, t2, t3, hx9⟩ := keep4B (g := w5.heap.size) (by assumption) (by assumption) (by assumption) (by assumption) (by assumption) hb9))
          go_wp2_with fail
          go_ret
          exact ⟨rfl, HBZ.out.trans (hx9.mono HBZ.out.size)⟩
        · have hof := of_any HRR.out hc (by omega)
          rw [hN] at hof
          have HOF := Lib.hid hof
          clear hof hN HX4
          go_upto_region 16 with (go_at_call 13; refine HOF.out.mono ?_; rintro e w5 ⟨v5, rfl, hv5, _, hb5⟩; obtain ⟨A5, c5, A6, c6, rfl, hx5⟩ := hv5.out; have HB5 := Lib.hid (HB4.out.trans (hb5.mono HB4.out.size)); clear hv5 hb5 hx5)
          go_wp2_with fail
          go_ret
          exact ⟨rfl, HB5.out.alloc HB5.out.size _⟩

end Go.Proofs.YtdogmcpmlglkfaaDoor

namespace Go.Proofs.YtdogmcpmlglkfaaDoor
open Go.ChangeShapes Go.WideShapes Go.ChangeAt Go.RowKit Go.Proofs.YtdogmcpmlglkfaaDoorW.PrintWords Go.Proofs.YtdogmcpmlglkfaaDoor.PRef

set_option maxRecDepth 100000 in
theorem storeOpens_lifted (os : Os) (started : os.Started) (H : Type) (enc : TypeId × Value → H) :
    ReturnsInHanded {} Tryd.checked os 3 .any (fun w args => (Rows.storeOpensSpec.pre enc Tryd.prog Tryd.f3 [] false w args ∧ laidMetH Tryd.prog laid3 w) ∧ sizedMet enc Tryd.prog Tryd.f3 (OpenSpec.ofChange Rows.storeOpensSpec) false w args)
      (Rows.storeOpensSpec.post enc Tryd.prog Tryd.f3 false true false false) := by
  refine returnsInHanded_of_change_and (C := Tryd.checked) (X := fun w _ => laidMetH Tryd.prog laid3 w) (fun _ _ _ hh h => h.of_heap hh) own0 started (by kernel_rfl) Tryd.func3
    (ChangeSpec.witness_shaped (enc := enc) (C := Tryd.checked) (os := os) (X := fun w _ => laidMetH Tryd.prog laid3 w) false (World.doorLaid Tryd.prog 24 os) #[.slice none 0 0] 8 rfl (World.shaped_of_RefB (by kernel_rfl) (by kernel_rfl)) (by kernel_rfl) (by kernel_rfl) (by kernel_rfl) (door_met os _)) ?_
  intro W base args ds gs before hval0 hW _ _ _ _
  have hval : ∀ (j : Nat) t v, Tryd.f3.params[j]? = some t → args[j]? = some v → Value.okWide Tryd.prog W .any base t v := hval0
  have hW' := hW
  obtain ⟨p, q, hA0, hV, rfl, hfz, hnd⟩ := hW
  have hA : DataW.TrodAll enc Tryd.prog W 0 (fun _ => true) true Tryd.f3.params.toList args.toList ds p := hA0
  rw [Tryd.params3] at hA hval
  obtain ⟨v0, vs0, d0, ds0, p0, q0, hargs, rfl, rfl, h0, r0⟩ := trodAll_cons hA
  obtain ⟨rfl, rfl, rfl⟩ := trodAll_nil r0
  obtain rfl : args = #[v0] := by cases args; simp_all
  obtain ⟨rfl, rfl⟩ := trodVars_none hV
  obtain ⟨A0, n0, c0, rfl⟩ := okWide_slice Tryd.underlying22 (hval 0 22 v0 rfl rfl)
  have k0 := h0
  have lt0 : ∀ x ∈ p0, x.block < W.heap.size := by obtain ⟨m, hm⟩ := k0; exact DataW.trod_lt m _ _ _ hm
  obtain ⟨m0, hm0⟩ := h0
  obtain ⟨x0, hy0, hz0⟩ := Opens.slice Tryd.underlying22 (by kernel_rfl) (Opens.str Tryd.underlying9) m0 _ _ hm0
  obtain ⟨B0, e0, E0, l0, g0⟩ := hy0
  cases E0
  have hh0 := hz0.2
  clear hA0 hval0
  refine (sopens_walk A0 c0 x0 W l0 g0).mono fun e W' ⟨he, bel⟩ => ?_
  subst he
  exact ⟨_, rfl, _, _, _, [], _, [], hW', trodAll_mk1 (shut_bool Tryd.underlying4 _), (trodAll_cons_mk (Below.trod laid (by kernel_rfl) (of_decide_eq_true (by kernel_rfl)) k0 bel lt0) trodAll_mk0), rfl, bel.frame _, fun h => by cases h⟩

theorem storeOpens_over : Rows.storeOpensRow.holds Tryd.pinned (OpenSpec.ofChange Rows.storeOpensSpec) :=
  OpenClaim.holds_of_wide 3 Tryd.f3 rfl rfl rfl rfl rfl rfl rfl ⟨rfl, rfl, rfl, rfl, rfl⟩ rfl rfl rfl rfl rfl (by kernel_rfl) Tryd.func3 (by kernel_rfl)
    (of_decide_eq_true (by kernel_rfl)) (by unfold Func.isWrapper; first | (rw [if_pos (by decide +kernel)]; kernel_rfl) | (rw [if_neg (by decide +kernel)]; exact ⟨rfl, rfl⟩))
    (fun os started H enc _ => storeOpens_lifted os started H enc)

/-- The tied card. -/
theorem storeOpens_holds : Rows.StoreOpensCardSaid :=
  Claim7.holds_tied_plain_at .later [] [.data, .data, .data] true (true, "a5c72920e2d8d871e44f861bacea2d9b9941351a971a0a9d7a99f6218acb976c") false
    storeOpens_over (fun _ h => by cases h) (by kernel_rfl) (fun _ h => by cases h) storeOpens_row_tie rfl ⟨rfl, rfl⟩ (by kernel_rfl) rfl
    (fun f fn hf hfn => by
      obtain rfl : f = 3 := Option.some.inj ((show Tryd.prog.funcNamed "palaver/palaverlaw11.StoreOpens" = some 3 by kernel_rfl).symm.trans hf) |>.symm
      obtain rfl : fn = Tryd.f3 := (Option.some.inj (Tryd.func3.symm.trans hfn)).symm
      exact ⟨by kernel_rfl, fun j t ht => by
        rw [Tryd.params3] at ht
        have hm : t ∈ [22] := by simpa using Array.mem_of_getElem? ht
        have hall : ([22].all fun u => !Tryd.prog.wantsStandIn u) = true := by kernel_rfl
        exact (show Tryd.prog.wantsStandIn t = false by simpa using List.all_eq_true.1 hall t hm)⟩)
    (by kernel_rfl)
#print axioms storeOpens_holds

end Go.Proofs.YtdogmcpmlglkfaaDoor
