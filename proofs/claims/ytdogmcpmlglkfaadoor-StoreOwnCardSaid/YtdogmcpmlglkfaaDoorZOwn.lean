/- StoreOwn, proved (the tied card): what is told is its asker's own: spoilt, the store's state stays. For every input, without a condition. -/
import Derived.Test.YtdogmcpmlglkfaaDoorZD

namespace Go.Proofs.YtdogmcpmlglkfaaDoor
open Go.RowKit Go.Proofs.YtdogmcpmlglkfaaDoorW.PrintWords Go.Proofs.YtdogmcpmlglkfaaDoor.PRef

/-- A log that stands. -/
def Log11 (w : World) (q p r m u : Nat) (rm : Int) (recs : List ByteArray) : Prop := ∃ D L segs, LogRep w q p L ∧ DRep w p r D ∧ LInv m u D L segs ∧ segs.flatten = recs ∧ D.armed = false ∧ D.room = rm

theorem log_new {w : World} {p r : Nat} {rm : Int} (hd : DRep w p r ⟨rm, false, 0, false, []⟩) (h0 : 0 ≤ rm) (h1 : rm ≤ 4194304) :
    Calls Tryd.prog 10 #[.pointer (some ⟨p, 0, none⟩), .string room] w fun e w' => ∃ q v, e = .returned (.tuple #[.pointer (some ⟨q, 0, none⟩), v, .int .i64 0]) ∧ w.heap.size ≤ q ∧ Log11 w' q p r 0 0 rm [] ∧ BFr w.heap.size p r w w' := by
  refine (logOpen_any room hd (fresh_ok h0 h1) (by rw [room_size]; omega) (open_cap room_le (fresh_datas rm) rfl rfl (Nat.zero_le _) (fun _ h => by cases h) tail_nil (Nat.zero_le _))).mono ?_
  rintro e w' ⟨x, D', L', all, hend, hd', hf, hx⟩
  obtain ⟨rfl, rfl, h3⟩ := openEnd_of room_le (fresh_datas rm) rfl rfl (Nat.zero_le _) (fun _ h => by cases h) tail_nil hend
  obtain ⟨rfl, rfl⟩ := h3 rfl
  rcases hx with ⟨_, q, v, hq, rfl, hlog, _⟩ | ⟨hc, _⟩
  · refine ⟨q, v, rfl, hq, ⟨_, _, [], hlog, hd', ?_, rfl, rfl, rfl⟩, hf⟩
    exact ⟨rfl, rfl, (fun rs h => by cases h), ⟨Int.le_refl 0, Int.le_refl 0⟩, rfl, (fun n _ => rfl), Nat.le_refl _, rfl, fresh_ok h0 h1, (fun _ h => by cases h), Nat.le_refl _, Nat.le_refl _, ⟨Int.le_refl 0, Int.le_refl 0⟩⟩
  · exact absurd rfl hc

theorem log_step {w : World} {q p r m u : Nat} {rm : Int} {recs : List ByteArray} (rec : ByteArray) (h : Log11 w q p r m u rm recs) (hm : m ≤ 80) (hs : rec.size ≤ 65535) (hu : ((u + (8 + rec.size) : Nat) : Int) ≤ rm) (hrm : rm ≤ 4194304) :
    Calls Tryd.prog 11 #[.pointer (some ⟨q, 0, none⟩), .string rec] w fun e w' => e = .returned (.int .i64 0) ∧ Log11 w' q p r (m + 1) (u + (8 + rec.size)) rm (recs ++ [rec]) ∧ LFr p r q w w' := by
  obtain ⟨D, L, segs, hl, hd, hi, hf, ha, rfl⟩ := h
  refine (logApp_any rec hl hd (hi.lok hm (by omega)) hi.ok).mono ?_
  rintro e w' ⟨h1, h2, h3, h4⟩
  rcases logApp_of hi hm hs hu with ⟨L', D', segs', e1, e2, e3, e4, e5⟩ | ⟨hc, _⟩
  · rw [e1] at h1 h2 h3
    exact ⟨h1, ⟨D', L', segs', h2, h3, e2, by rw [e3, hf], e4.trans ha, e5⟩, h4⟩
  · rw [ha] at hc; cases hc

theorem log_open {w : World} {q p r m u : Nat} {rm : Int} {recs : List ByteArray} (h : Log11 w q p r m u rm recs) (hm : m ≤ 80) :
    Calls Tryd.prog 12 #[.pointer (some ⟨p, 0, none⟩)] w fun e w' => ∃ a c, e = .returned (.tuple #[.pointer a, .int .i64 c]) ∧ BFr w.heap.size p r w w' ∧
      ((∃ S C g q, takesL s0 recs = some S ∧ a = some ⟨g, 0, none⟩ ∧ c = 0 ∧ StRep w' C g q S) ∨ (takesL s0 recs = none ∧ a = none ∧ c = 2)) := by
  obtain ⟨D, L, segs, hl, hd, hi, rfl, ha, rfl⟩ := h
  exact open_segs hd hi.ok hi.files.datas hi.off ha (by have := hi.lens; omega) hi.small tail_nil (by have := hi.len; omega)

theorem LFr.to_below {w0 w w' : World} {p r q : Nat} (h : LFr p r q w w') (h0 : Below w0.heap.size w0 w) (hp : w0.heap.size ≤ p) (hr : w0.heap.size ≤ r) (hq : w0.heap.size ≤ q) : Below w0.heap.size w0 w' :=
  h0.trans ⟨h.os, h.tape, h.output, h.size, fun k hk => h.block k (by have := h0.size; omega) (by rintro (e | e | e) <;> omega)⟩

theorem keep4B {wc x y : World} {g : Nat} {u0 u1 u2 u3 : Value} (h0 : x.cell? ⟨g, 0, none⟩ = some u0) (h1 : x.cell? ⟨g, 1, none⟩ = some u1) (h2 : x.cell? ⟨g, 2, none⟩ = some u2) (h3 : x.cell? ⟨g, 3, none⟩ = some u3) (h : Below wc.heap.size wc x) (hb : Below x.heap.size x y) :
    y.cell? ⟨g, 0, none⟩ = some u0 ∧ y.cell? ⟨g, 1, none⟩ = some u1 ∧ y.cell? ⟨g, 2, none⟩ = some u2 ∧ y.cell? ⟨g, 3, none⟩ = some u3 ∧ Below wc.heap.size wc y :=
  ⟨(hb.cell (World.block_lt_of_cell? _ _ h0)).trans h0, (hb.cell (World.block_lt_of_cell? _ _ h1)).trans h1, (hb.cell (World.block_lt_of_cell? _ _ h2)).trans h2, (hb.cell (World.block_lt_of_cell? _ _ h3)).trans h3, h.trans (hb.mono h.size)⟩

set_option maxHeartbeats 4000000 in
set_option maxRecDepth 100000 in
theorem sopens_walk (A : Option Addr) (c : Nat) (recs : List ByteArray) (w : World) (hc : recs.length ≤ c) (hr : Kd.C Kd.string w A recs.length recs) :
    Calls Tryd.prog 3 #[.slice A recs.length c] w fun e w' => e = .returned (.bool true) ∧ Below w.heap.size w w' := by
  have HR := Lib.hid hr
  clear hr
  by_cases hbig : 30 < recs.length
  · go_enter Tryd.func3, Tryd.ntmps3
    go_wp2_with (go_at_call 8; refine (awake11 _).mono ?_; rintro e w2 ⟨rfl, hb2⟩)
    go_ret
    exact ⟨rfl, hb2⟩
  · go_enter Tryd.func3, Tryd.ntmps3
    go_wp2_with (first
      | (go_at_call 8; refine (awake11 _).mono ?_; rintro e w1 ⟨rfl, hb1⟩; have HB1 := Lib.hid hb1; clear hb1)
      | (go_at_call 9; refine (new_ok 1048576 _ (by omega) (by omega)).mono ?_; rintro e w2 ⟨p, r, rfl, hd2, hp0, hr0, hb2⟩; have hp := Nat.le_trans HB1.out.size hp0; have hr := Nat.le_trans HB1.out.size hr0; have HD2 := Lib.hid hd2; have HB2 := Lib.hid (HB1.out.trans (hb2.mono HB1.out.size)); clear hd2 hb2 hp0 hr0)
      | (go_at_call 10; refine (log_new HD2.out (by omega) (by omega)).mono ?_; rintro e w3 ⟨q, v, rfl, hq0, hl3, hf3⟩; have hq := Nat.le_trans HB2.out.size hq0; have HL3 := Lib.hid hl3; have HB3 := Lib.hid (hf3.to_below HB2.out hp hr HB2.out.size); clear hl3 hf3 hq0))
    go_loopw [7] (fun iv wr => ∃ j u : Nat, iv = .int .i64 j ∧ j ≤ recs.length ∧ u ≤ 1008 * j ∧ Log11 wr q p r j u 1048576 (recs.take j) ∧ Below w.heap.size w wr) (fun iv _ => recs.length - (intOf iv).toNat)
    case atStart => exact ⟨0, 0, rfl, Nat.zero_le _, Nat.le_refl _, HL3.out, HB3.out⟩
    case round =>
      obtain ⟨j, u, rfl, hj, hu, hlr, hbr⟩ := hrel
      have HLR := Lib.hid hlr
      have HBR := Lib.hid hbr
      clear HL3 HB3 HD2 HB2 hlr
      by_cases hlt : j < recs.length
      · obtain ⟨ad, rfl, hcell⟩ := at_str (Kd.C_below HR.out hbr) hlt
        obtain ⟨rec, hrec⟩ : ∃ rec, rec = recs[j] := ⟨_, rfl⟩
        rw [← hrec] at hcell
        have HREC := Lib.hid hrec
        clear hbr hrec
        by_cases hs : 1000 < rec.size
        · go_wp2_with fail
          go_ret
          exact ⟨rfl, HBR.out⟩
        · have HST := Lib.hid (log_step rec HLR.out (by omega) (by omega) (by omega) (by omega))
          go_wp2_with (go_at_call 11; refine HST.out.mono ?_; rintro e w4 ⟨rfl, hl4, hf4⟩; have HL4 := Lib.hid hl4; have HB4 := Lib.hid (hf4.to_below HBR.out hp hr hq); clear hl4 hf4)
          exact ⟨⟨j + 1, u + (8 + rec.size), by go_num, by omega, by omega, by rw [List.take_succ_eq_append_getElem hlt, ← HREC.out]; exact HL4.out, HB4.out⟩, by simp [intOf]; omega⟩
      · obtain rfl : j = recs.length := by omega
        rw [List.take_length] at HLR
        have HOP := Lib.hid (log_open HLR.out (by omega))
        clear hbr
        go_upto_region 15 with (go_at_call 12; refine HOP.out.mono ?_; rintro e w4 ⟨a4, c4, rfl, hf4, hx4⟩; have HX4 := Lib.hid hx4; have HB4 := Lib.hid (hf4.to_below HBR.out hp hr HBR.out.size); clear hx4 hf4)
        have HRR := Lib.hid (Kd.C_below HR.out HB4.out)
        rcases HX4.out with ⟨S, C, g, q', hS, rfl, rfl, hst⟩ | ⟨hN, rfl, rfl⟩
        · have hof := of_any HRR.out hc (by omega)
          have hS0 : ofS recs = S := by rw [ofS, hS]; rfl
          rw [hS, hS0] at hof
          have HOF := Lib.hid hof
          have hlen := takesL_len hS
          have HST := Lib.hid hst
          clear hof hS hS0 hst HX4
          go_upto_region 16 with (go_at_call 13; refine HOF.out.mono ?_; rintro e w5 ⟨v5, rfl, hv5, _, hb5⟩; obtain ⟨A5, c5, A6, c6, rfl, hx5⟩ := hv5.out; have HV5 := Lib.hid hv5; have HST5 := Lib.hid (HST.out.below hb5); have HB5 := Lib.hid (HB4.out.trans (hb5.mono HB4.out.size)); clear hv5 hb5 hx5)
          obtain ⟨wz, hwz⟩ : ∃ wz, wz = w5.alloc (.cells #[.string S.room, .slice A5 S.events.length c5, .int .i64 S.used, .slice A6 S.queue.length c6] 35) := ⟨_, rfl⟩
          have hbz : Below w5.heap.size w5 wz := by rw [hwz]; exact ba_size _ _ _
          have hblk : wz.heap[w5.heap.size]? = some (.cells #[.string S.room, .slice A5 S.events.length c5, .int .i64 S.used, .slice A6 S.queue.length c6] 35) := by rw [hwz]; exact heap_alloc_new _ _
          obtain ⟨d0, d1, d2, d3, _⟩ := box4f hblk
          have HVZ := Lib.hid (HV5.out.below hbz)
          have HSZ := Lib.hid (HST5.out.below hbz)
          have HBZ := Lib.hid (HB5.out.trans (hbz.mono HB5.out.size))
          rw [← hwz]
          clear hwz hblk hbz
          simp only [s0, List.length_nil] at hlen
          have hbx := (Below.refl wz.heap.size wz).drew
          have x0 : wz.drew.cell? ⟨w5.heap.size, 0, none⟩ = some (.string S.room) := d0
          have x1 : wz.drew.cell? ⟨w5.heap.size, 1, none⟩ = some (.slice A5 S.events.length c5) := d1
          have x2 : wz.drew.cell? ⟨w5.heap.size, 2, none⟩ = some (.int .i64 S.used) := d2
          have x3 : wz.drew.cell? ⟨w5.heap.size, 3, none⟩ = some (.slice A6 S.queue.length c6) := d3
          go_upto_region 18 with fail
          go_region_held3 (fun x => x.cell? ⟨w5.heap.size, 0, none⟩ = some (.string S.room) ∧ x.cell? ⟨w5.heap.size, 1, none⟩ = some (.slice A5 S.events.length c5) ∧ x.cell? ⟨w5.heap.size, 2, none⟩ = some (.int .i64 S.used) ∧ x.cell? ⟨w5.heap.size, 3, none⟩ = some (.slice A6 S.queue.length c6) ∧ Below wz.heap.size wz x) (first | (refine ⟨?_, ?_, ?_, ?_, ?_⟩ <;> assumption) | go_keep)
            (first
              | (go_at_call 16; refine (state_own (HSZ.out.below ?_) ⟨?_, ?_⟩).mono ?_; assumption; omega; omega; rintro e w7 ⟨v7, rfl, hv7, _, hb7⟩; obtain ⟨y0, y1, y2, y3, hx7⟩ := keep4B (g := w5.heap.size) (by assumption) (by assumption) (by assumption) (by assumption) (by assumption) hb7)
              | (go_at_call 15; refine (as_any hv7).mono ?_; rintro e w8 ⟨rfl, hb8⟩; have hv8 := hv7.below hb8; obtain ⟨z0, z1, z2, z3, hx8⟩ := keep4B (g := w5.heap.size) (by assumption) (by assumption) (by assumption) (by assumption) (by assumption) hb8)
              | (go_at_call 14; refine (same_any hv8 (HVZ.out.below ?_)).mono ?_; assumption; rintro e w9 ⟨rfl, hb9⟩; rw [sameB_self]; obtain ⟨t0, t1, t2, t3, hx9⟩ := keep4B (g := w5.heap.size) (by assumption) (by assumption) (by assumption) (by assumption) (by assumption) hb9))
          go_wp2_with fail
          go_ret
          exact ⟨rfl, HBZ.out.trans (hx9.mono HBZ.out.size)⟩
        · have hof := of_any HRR.out hc (by omega)
          rw [hN] at hof
          have HOF := Lib.hid hof
          clear hof hN HX4
          go_upto_region 16 with (go_at_call 13; refine HOF.out.mono ?_; rintro e w5 ⟨v5, rfl, hv5, _, hb5⟩; obtain ⟨A5, c5, A6, c6, rfl, hx5⟩ := hv5.out; have HB5 := Lib.hid (HB4.out.trans (hb5.mono HB4.out.size)); clear hv5 hb5 hx5)
          go_wp2_with fail
          go_ret
          exact ⟨rfl, HB5.out.alloc HB5.out.size _⟩

end Go.Proofs.YtdogmcpmlglkfaaDoor

namespace Go.Proofs.YtdogmcpmlglkfaaDoor
open Go.RowKit Go.Proofs.YtdogmcpmlglkfaaDoorW.PrintWords Go.Proofs.YtdogmcpmlglkfaaDoor.PRef

theorem Store11.move {w w' : World} {C g q p r m u : Nat} {F : Nat → Prop} {rm : Int} {recs : List ByteArray} (h : Store11 w C g q p r F m u rm recs) (hm : ∀ k, k < w.heap.size → (k = p ∨ k = r ∨ k = q ∨ F k) → w'.heap[k]? = w.heap[k]?) (hs : w.heap.size ≤ w'.heap.size) : Store11 w' C g q p r F m u rm recs := by
  obtain ⟨D, L, segs, S, h, h1, h2⟩ := h
  obtain ⟨ev, qu, hst, hF⟩ := h.st
  refine ⟨D, L, segs, S, ⟨⟨ev, qu, ⟨?_, ?_, ?_, hst.apart, hst.base⟩, hF.size hs⟩, ?_, ?_, h.inv, h.flat, h.tak, h.hq, h.hp, h.hr⟩, h1, h2⟩
  · exact (hm g hst.lt (.inr (.inr (.inr hF.g)))).trans hst.blk
  · exact hst.evs.move fun k hk => hm k (hst.evs.lt hk).2 (.inr (.inr (.inr (hF.ev k hk))))
  · exact hst.qus.move fun k hk => hm k (hst.qus.lt hk).2 (.inr (.inr (.inr (hF.qu k hk))))
  · exact h.log.move (hm q h.log.lt (.inr (.inr (.inl rfl))))
  · exact h.dsk.move (hm p h.dsk.lt (.inl rfl)) (hm r h.dsk.2.lt (.inr (.inl rfl)))

/-- What stands ahead of act j: the store, and the row of the records. -/
structure PInv (w0 w : World) (C g q p r : Nat) (F : Nat → Prop) (j u : Nat) (recs : List ByteArray) (rv : Value) : Prop where
  st : Store11 w C g q p r F j u 1048576 recs
  row : w.ownsRow w0.heap.size 9 1 rv recs.length (recs.map Value.string)
  sep : ∀ k, rv.ownBlock = some k → k ≠ p ∧ k ≠ r ∧ k ≠ q ∧ ¬ F k
  bel : Below w0.heap.size w0 w
  len : recs.length ≤ j
  use : u ≤ 1009 * j
  hp : w0.heap.size ≤ p
  hr : w0.heap.size ≤ r
  hq : w0.heap.size ≤ q
  hC : w0.heap.size ≤ C

theorem PInv.below {w0 w w' : World} {C g q p r j u : Nat} {F : Nat → Prop} {recs : List ByteArray} {rv : Value} (h : PInv w0 w C g q p r F j u recs rv) (hb : Below w.heap.size w w') : PInv w0 w' C g q p r F j u recs rv :=
  ⟨h.st.below hb, own_below h.row hb, h.sep, h.bel.trans (hb.mono h.bel.size), h.len, h.use, h.hp, h.hr, h.hq, h.hC⟩

theorem PInv.set4 {w0 w : World} {C g q p r j u : Nat} {F : Nat → Prop} {recs : List ByteArray} {rv : Value} (h : PInv w0 w C g q p r F j u recs rv) {b : Nat} (hb0 : w0.heap.size ≤ b) (hb1 : b ≠ p ∧ b ≠ r ∧ b ≠ q ∧ ¬ F b) (hb2 : rv.ownBlock ≠ some b) (x0 x1 x2 x3 : Value) :
    PInv w0 ((((w.setCell ⟨b, 0, none⟩ x0).setCell ⟨b, 1, none⟩ x1).setCell ⟨b, 2, none⟩ x2).setCell ⟨b, 3, none⟩ x3) C g q p r F j u recs rv := by
  have hm : ∀ k, k ≠ b → ((((w.setCell ⟨b, 0, none⟩ x0).setCell ⟨b, 1, none⟩ x1).setCell ⟨b, 2, none⟩ x2).setCell ⟨b, 3, none⟩ x3).heap[k]? = w.heap[k]? := fun k hk => by
    rw [Below.heap_setCell _ _ _ _ hk, Below.heap_setCell _ _ _ _ hk, Below.heap_setCell _ _ _ _ hk, Below.heap_setCell _ _ _ _ hk]
  refine ⟨h.st.move (fun k _ hk => hm k ?_) (by simp [World.setCell]), ownsRow_move h.row fun k hk => hm k (fun e => hb2 (e ▸ hk)), h.sep, ?_, h.len, h.use, h.hp, h.hr, h.hq, h.hC⟩
  · rintro rfl
    rcases hk with e | e | e | e
    · exact hb1.1 e
    · exact hb1.2.1 e
    · exact hb1.2.2.1 e
    · exact hb1.2.2.2 e
  · exact (((h.bel.setCell (p := ⟨b, 0, none⟩) hb0 _).setCell (p := ⟨b, 1, none⟩) hb0 _).setCell (p := ⟨b, 2, none⟩) hb0 _).setCell (p := ⟨b, 3, none⟩) hb0 _

/-- Behind an act that was refused. -/
theorem PInv.skip {w0 w w' : World} {C g q p r j u u' : Nat} {F F' : Nat → Prop} {recs : List ByteArray} {rv : Value} (h : PInv w0 w C g q p r F j u recs rv) (hu : u' ≤ u + 1009) (hs : Store11 w' C g q p r F' (j + 1) u' 1048576 recs) (hF : ∀ b, b < w.heap.size → F' b → F b) (hf : SFr F p r q w w') :
    PInv w0 w' C g q p r F' (j + 1) u' recs rv := by
  have hlt := fun k (hk : rv.ownBlock = some k) => (h.row.lt k hk).2
  refine ⟨hs, ownsRow_move h.row fun k hk => hf.block k (hlt k hk) ?_, fun k hk => ?_, hf.to_below h.st.rng h.bel h.hp h.hr h.hq h.hC, by have := h.len; omega, by have := h.use; omega, h.hp, h.hr, h.hq, h.hC⟩
  · have := h.sep k hk
    rintro (e | e | e | e)
    · exact this.1 e
    · exact this.2.1 e
    · exact this.2.2.1 e
    · exact this.2.2.2 e
  · have := h.sep k hk
    exact ⟨this.1, this.2.1, this.2.2.1, fun e => this.2.2.2 (hF k (hlt k hk) e)⟩

/-- Behind an act that was laid, ahead of the record's being put to the row. -/
theorem PInv.laid {w0 w w' : World} {C g q p r j u u' : Nat} {F F' : Nat → Prop} {recs : List ByteArray} {rec : ByteArray} {rv : Value} (h : PInv w0 w C g q p r F j u recs rv) (hs : Store11 w' C g q p r F' (j + 1) u' 1048576 (recs ++ [rec])) (hF : ∀ b, b < w.heap.size → F' b → F b) (hf : SFr F p r q w w') :
    w'.ownsRow w0.heap.size 9 1 rv recs.length (recs.map Value.string) ∧ (∀ k, rv.ownBlock = some k → k ≠ p ∧ k ≠ r ∧ k ≠ q ∧ ¬ F' k) ∧ Below w0.heap.size w0 w' := by
  have hlt := fun k (hk : rv.ownBlock = some k) => (h.row.lt k hk).2
  refine ⟨ownsRow_move h.row fun k hk => hf.block k (hlt k hk) ?_, fun k hk => ?_, hf.to_below h.st.rng h.bel h.hp h.hr h.hq h.hC⟩
  · have := h.sep k hk
    rintro (e | e | e | e)
    · exact this.1 e
    · exact this.2.1 e
    · exact this.2.2.1 e
    · exact this.2.2.2 e
  · have := h.sep k hk
    exact ⟨this.1, this.2.1, this.2.2.1, fun e => this.2.2.2 (hF k (hlt k hk) e)⟩

theorem PInv.push {w0 w w' w8 : World} {C g q p r j u u' : Nat} {F F' : Nat → Prop} {recs : List ByteArray} {rec : ByteArray} {rv v' : Value} {o : Obj} (h : PInv w0 w C g q p r F j u recs rv) (hu : u' ≤ u + 1009) (hs : Store11 w' C g q p r F' (j + 1) u' 1048576 (recs ++ [rec])) (hF : ∀ b, b < w.heap.size → F' b → F b) (hf : SFr F p r q w w')
    (hown : w8.ownsRow w0.heap.size 9 1 v' (recs ++ [rec]).length ((recs ++ [rec]).map Value.string)) (hg : (w'.alloc o).grownBy w8 rv.ownBlock) (hat : v'.ownBlock = rv.ownBlock ∨ v'.ownBlock = some (w'.alloc o).heap.size) : PInv w0 w8 C g q p r F' (j + 1) u' (recs ++ [rec]) v' := by
  obtain ⟨h1, h2, h3⟩ := h.laid hs hF hf
  have hr1 := hs.rng
  have hp1 : p < w'.heap.size ∧ r < w'.heap.size ∧ q < w'.heap.size := by
    obtain ⟨D, L, segs, S, h, _, _⟩ := hs
    exact ⟨h.dsk.lt, h.dsk.2.lt, h.log.lt⟩
  have hz : w'.heap.size ≤ w8.heap.size := Nat.le_trans (by rw [asz]; omega) hg.size
  refine ⟨hs.move (fun k hk hc => ?_) hz, hown, fun k hk => ?_, ?_, ?_, by have := h.use; omega, h.hp, h.hr, h.hq, h.hC⟩
  · refine (hg.block k (by rw [asz]; omega) (fun e => ?_)).trans (Below.heap_alloc _ _ _ hk)
    have := h2 k e.symm
    rcases hc with e | e | e | e
    · exact this.1 e
    · exact this.2.1 e
    · exact this.2.2.1 e
    · exact this.2.2.2 e
  · rcases hat with e | e
    · exact h2 k (e ▸ hk)
    · rw [e, asz] at hk
      simp only [Option.some.injEq] at hk
      exact ⟨by omega, by omega, by omega, fun hc => by have := (hr1 k hc).2; omega⟩
  · exact (h3.alloc h3.size _).grown hg (by rw [asz]; have := h3.size; omega) (fun k hk => (h1.lt k hk).1)
  · rw [List.length_append]
    have := h.len
    simp only [List.length_cons, List.length_nil]
    omega

theorem of_st {w w0 : World} {C g q p r j u : Nat} {F : Nat → Prop} {recs : List ByteArray} {A : Option Addr} {c : Nat} (h : PInv w0 w C g q p r F j u recs (.slice A recs.length c)) (hj : j ≤ 80) :
    Calls Tryd.prog 13 #[.slice A recs.length c] w fun e w' => ∃ v, e = .returned (.tuple #[v, .bool true]) ∧ SVal w' v (ofS recs) ∧ SFar w.heap.size v ∧ Below w.heap.size w w' := by
  have hl := h.len
  obtain ⟨A', c', e, hc, hr, _⟩ := own_read h.row (by omega)
  cases e
  have := of_any hr hc (by omega)
  obtain ⟨D, L, segs, S, hs, _, _⟩ := h.st
  rw [hs.tak] at this
  exact this

theorem does_snd (S : SSt) (k : Int) (t : ByteArray) (n : Int) : (doesF S k t n).2 = noK S k t n := by
  rw [doesF_eq]
  split
  · rename_i h; exact h.symm
  · rfl

theorem does_fst {S : SSt} {k : Int} {t : ByteArray} {n : Int} (h : noK S k t n = 0) : (doesF S k t n).1 = recK k t n := by
  rw [doesF_eq, if_pos h]

theorem act11_at {w : World} {A : Option Addr} {n : Nat} {l : List Act11} (h : Kd.C k48 w A n l) {i : Nat} (hi : i < l.length) : ∃ ad, A = some ad ∧
    w.cell? (ad.add (i * 3)) = some (.int .i64 l[i].f0) ∧ w.cell? ⟨(ad.add (i * 3)).block, (ad.add (i * 3)).off + 1, none⟩ = some (.string l[i].f1) ∧ w.cell? ⟨(ad.add (i * 3)).block, (ad.add (i * 3)).off + 2, none⟩ = some (.int .i64 l[i].f2) := by
  have hn := h.1
  obtain ⟨ad, e, h0, h1, h2⟩ := at_T48 h (i : Int) (by omega) (by omega)
  rw [rdA11_at hi] at h0 h1 h2
  simp only [Int.toNat_natCast] at h0 h1 h2
  exact ⟨ad, e, h0, h1, h2⟩

theorem keep7B {wc x y : World} {a0 a1 a2 a3 a4 a5 a6 : Addr} {u0 u1 u2 u3 u4 u5 u6 : Value} (h0 : x.cell? a0 = some u0) (h1 : x.cell? a1 = some u1) (h2 : x.cell? a2 = some u2) (h3 : x.cell? a3 = some u3) (h4 : x.cell? a4 = some u4) (h5 : x.cell? a5 = some u5) (h6 : x.cell? a6 = some u6) (h : Below wc.heap.size wc x) (hb : Below x.heap.size x y) :
    y.cell? a0 = some u0 ∧ y.cell? a1 = some u1 ∧ y.cell? a2 = some u2 ∧ y.cell? a3 = some u3 ∧ y.cell? a4 = some u4 ∧ y.cell? a5 = some u5 ∧ y.cell? a6 = some u6 ∧ Below wc.heap.size wc y :=
  ⟨(hb.cell (World.block_lt_of_cell? _ _ h0)).trans h0, (hb.cell (World.block_lt_of_cell? _ _ h1)).trans h1, (hb.cell (World.block_lt_of_cell? _ _ h2)).trans h2, (hb.cell (World.block_lt_of_cell? _ _ h3)).trans h3,
    (hb.cell (World.block_lt_of_cell? _ _ h4)).trans h4, (hb.cell (World.block_lt_of_cell? _ _ h5)).trans h5, (hb.cell (World.block_lt_of_cell? _ _ h6)).trans h6, h.trans (hb.mono h.size)⟩

end Go.Proofs.YtdogmcpmlglkfaaDoor

namespace Go.Proofs.YtdogmcpmlglkfaaDoor
open Go.RowKit Go.Proofs.YtdogmcpmlglkfaaDoorW.PrintWords Go.Proofs.YtdogmcpmlglkfaaDoor.PRef

theorem SVal.far {w w' : World} {v : Value} {S : SSt} {B : Nat} (h : SVal w v S) (hf : SFar B v) (hm : ∀ k, B ≤ k → k < w.heap.size → w'.heap[k]? = w.heap[k]?) : SVal w' v S := by
  obtain ⟨A, c, A2, c2, e, h1, h2, l1, l2, r1, r2⟩ := h
  obtain ⟨f1, f2⟩ := hf _ _ _ _ _ _ _ _ e
  have mv : ∀ {A : Option Addr} {xs : List ByteArray}, Kd.C Kd.string w A xs.length xs → (∀ ad, A = some ad → B ≤ ad.block) → Kd.C Kd.string w' A xs.length xs := by
    intro A xs r f
    obtain ⟨hl, hn, hc⟩ := r
    refine ⟨hl, hn, fun h0 => ?_⟩
    obtain ⟨ad, e, hc⟩ := hc h0
    refine ⟨ad, e, fun j q hj => ?_⟩
    obtain ⟨cs, h1, h2, h3⟩ := hc j q hj
    refine ⟨cs, h1, h2, fun i u hi => ?_⟩
    have hcell := h3 i u hi
    have hlt := World.block_lt_of_cell? _ _ hcell
    refine (World.cell?_of_block (hm _ ?_ hlt)).trans hcell
    rw [addr_block]
    exact f ad e
  exact ⟨A, c, A2, c2, e, h1, h2, l1, l2, mv r1 f1, mv r2 f2⟩

theorem own_new_ne {v v' : Value} {b n : Nat} (h : v'.ownBlock = v.ownBlock ∨ v'.ownBlock = some n) (hv : v.ownBlock ≠ some b) (hb : b < n) : v'.ownBlock ≠ some b := by
  rcases h with e | e
  · rw [e]; exact hv
  · rw [e]; simp only [ne_eq, Option.some.injEq]; omega

theorem SVal.bfr {w w' : World} {v : Value} {S : SSt} {B B2 p r : Nat} (h : SVal w v S) (hf : SFar B v) (hp : p < B) (hr : r < B) (hb : BFr B2 p r w w') (hB : w.heap.size ≤ B2) : SVal w' v S :=
  h.far hf fun k h1 h2 => hb.block k h2 (by rintro (e | e | e) <;> omega)

set_option maxHeartbeats 8000000 in
set_option maxRecDepth 100000 in
theorem splays_walk (A : Option Addr) (c : Nat) (l : List Act11) (w : World) (hc : l.length ≤ c) (hr : Kd.C k48 w A l.length l) :
    Calls Tryd.prog 4 #[.slice A l.length c] w fun e w' => e = .returned (.bool true) ∧ Below w.heap.size w w' := by
  obtain ⟨rg, hsm, hgr⟩ := great11_calls hr hc
  have HG := Lib.hid hgr
  have HR := Lib.hid hr
  clear hgr hr
  go_enter Tryd.func4, Tryd.ntmps4
  cases rg with
  | true =>
    go_wp2_with (first
      | (go_at_call 17; refine HG.out.mono ?_; rintro e w1 ⟨rfl, hd⟩; have HB1 := Lib.hid hd.below; clear hd)
      | (go_at_call 8; refine (awake11 _).mono ?_; rintro e w2 ⟨rfl, hb2⟩))
    go_ret
    exact ⟨rfl, HB1.out.trans (hb2.mono HB1.out.size)⟩
  | false =>
    obtain ⟨hs1, hs2⟩ := hsm rfl
    have HSM := Lib.hid hs2
    clear hs2 hsm
    go_wp2_with (first
      | (go_at_call 17; refine HG.out.mono ?_; rintro e w0 ⟨rfl, hd⟩; have HB0 := Lib.hid hd.below; clear hd)
      | (go_at_call 8; refine (awake11 _).mono ?_; rintro e w1 ⟨rfl, hb1⟩; have HB1 := Lib.hid (HB0.out.trans (hb1.mono HB0.out.size)); clear hb1)
      | (go_at_call 9; refine (new_ok 1048576 _ (by omega) (by omega)).mono ?_; rintro e w2 ⟨p, r, rfl, hd2, hp0, hr0, hb2⟩; have hp := Nat.le_trans HB1.out.size hp0; have hr := Nat.le_trans HB1.out.size hr0; have HD2 := Lib.hid hd2; have HB2 := Lib.hid (HB1.out.trans (hb2.mono HB1.out.size)); clear hd2 hb2 hp0 hr0)
      | (go_at_call 12; refine (open_new HD2.out (by omega) (by omega)).mono ?_; rintro e w3 ⟨C, g, q, F3, rfl, hq0, hC0, hs3, hf3⟩; have hq := Nat.le_trans HB2.out.size hq0; have hC := Nat.le_trans HB2.out.size hC0; have HS3 := Lib.hid hs3; have HB3 := Lib.hid (hf3.to_below HB2.out hp hr HB2.out.size); clear hs3 hf3 hq0 hC0))
    go_loopw [6, 7] (fun rv iv wr => ∃ (j u : Nat) (recs : List ByteArray) (F : Nat → Prop), iv = .int .i64 j ∧ j ≤ l.length ∧ PInv w wr C g q p r F j u recs rv) (fun _ iv _ => l.length - (intOf iv).toNat)
    case atStart => exact ⟨0, 0, [], F3, rfl, Nat.zero_le _, ⟨HS3.out, own_none _ _ _ _, (fun k hk => by cases hk), HB3.out, Nat.le_refl _, Nat.le_refl _, hp, hr, hq, hC⟩⟩
    case round =>
      obtain ⟨j, u, recs, F, rfl, hj, hinv⟩ := hrel
      have HI := Lib.hid hinv
      obtain ⟨Ar, cr, rfl, hcr, hrr, _⟩ := own_read hinv.row (by have := hinv.len; omega)
      have hrl := hinv.len
      clear HS3 HB3 HD2 HB2 HB1 HB0 hinv hrr
      have HOF := Lib.hid (of_st HI.out (by omega))
      obtain ⟨S, hS⟩ : ∃ S, S = ofS recs := ⟨_, rfl⟩
      rw [← hS] at HOF
      have HS := Lib.hid hS
      clear hS
      by_cases hlt : j < l.length
      · obtain ⟨ad, rfl, k0, k1, k2⟩ := act11_at (Kd.C_below HR.out HI.out.bel) hlt
        have hts := HSM.out l[j] (List.getElem_mem hlt)
        obtain ⟨⟨k, t, n⟩, hx⟩ : ∃ x, x = l[j] := ⟨_, rfl⟩
        rw [← hx] at k0 k1 k2 hts
        simp only at k0 k1 k2 hts
        clear hx
        have hgo : True := trivial
        go_upto_region 12 with (go_at_call 13; refine HOF.out.mono ?_; rintro e w5 ⟨v5, rfl, hv5, _, hb5⟩; obtain ⟨A5, c5, A6, c6, rfl, hx5⟩ := hv5.out; have HV5 := Lib.hid hv5; have HB5 := Lib.hid hb5; clear hv5 hb5 hx5)
        obtain ⟨wz, hwz⟩ : ∃ wz, wz = w5.alloc (.cells #[.string S.room, .slice A5 S.events.length c5, .int .i64 S.used, .slice A6 S.queue.length c6] 35) := ⟨_, rfl⟩
        have hbz : Below w5.heap.size w5 wz := by rw [hwz]; exact ba_size _ _ _
        have hblk : wz.heap[w5.heap.size]? = some (.cells #[.string S.room, .slice A5 S.events.length c5, .int .i64 S.used, .slice A6 S.queue.length c6] 35) := by rw [hwz]; exact heap_alloc_new _ _
        have hbr := HB5.out.trans (hbz.mono HB5.out.size)
        have HIZ := Lib.hid ((HI.out.below HB5.out).below hbz)
        have HVZ := Lib.hid (HV5.out.below hbz)
        obtain ⟨b, hb⟩ : ∃ b, b = w5.heap.size := ⟨_, rfl⟩
        rw [← hb] at hblk ⊢
        have hbF : ¬ F b := fun hc => by have := ((HI.out.below HB5.out).st.rng b hc).2; omega
        have hbp : b ≠ p ∧ b ≠ r ∧ b ≠ q := by
          obtain ⟨D, L, segs, S, h, _, _⟩ := (HI.out.below HB5.out).st
          have h1 := h.dsk.lt
          have h2 := h.dsk.2.lt
          have h3 := h.log.lt
          exact ⟨by omega, by omega, by omega⟩
        have hbr2 : (Value.slice Ar recs.length cr).ownBlock ≠ some b := fun e => by have := ((HI.out.below HB5.out).row.lt b e).2; omega
        have hb0 : w.heap.size ≤ b := by have := HI.out.bel.size; have := HB5.out.size; omega
        have HBF := Lib.hid (And.intro hbF (And.intro hbp (And.intro hbr2 hb0)))
        obtain ⟨d0, d1, d2, d3, _⟩ := box4f hblk
        have m0 := (hbr.cell (World.block_lt_of_cell? _ _ k0)).trans k0
        have m1 := (hbr.cell (World.block_lt_of_cell? _ _ k1)).trans k1
        have m2 := (hbr.cell (World.block_lt_of_cell? _ _ k2)).trans k2
        rw [← hwz]
        clear hwz hbz hbr k0 k1 k2 hbF hbp hbr2 hb0 hb
        have HBLK := Lib.hid hblk
        clear hblk
        have hX := does_snd S k t n
        have hR := does_fst (S := S) (k := k) (t := t) (n := n)
        have HDO := Lib.hid (fun (W : World) (h : SVal W (.agg #[.string S.room, .slice A5 S.events.length c5, .int .i64 S.used, .slice A6 S.queue.length c6]) S) => does_any k t n h (by omega))
        have HD11 := Lib.hid (fun (W : World) (h : Store11 W C g q p r F j u 1048576 recs) => do11_any k t n hts h (by omega) (by have := HI.out.use; omega) (by omega))
        rw [← HS.out] at HD11
        obtain ⟨⟨R, X⟩, hRX⟩ : ∃ Y, Y = doesF S k t n := ⟨_, rfl⟩
        rw [← hRX] at HDO hX hR
        simp only at HDO hX hR
        rw [← hX] at HD11 hR
        have HRK := Lib.hid hR
        clear hRX hX hR hts hgo
        have hbx := (Below.refl wz.heap.size wz).drew
        have x0 : wz.drew.cell? ⟨b, 0, none⟩ = some (.string S.room) := d0
        have x1 : wz.drew.cell? ⟨b, 1, none⟩ = some (.slice A5 S.events.length c5) := d1
        have x2 : wz.drew.cell? ⟨b, 2, none⟩ = some (.int .i64 S.used) := d2
        have x3 : wz.drew.cell? ⟨b, 3, none⟩ = some (.slice A6 S.queue.length c6) := d3
        have x4 : wz.drew.cell? (ad.add (j * 3)) = some (.int .i64 k) := m0
        have x5 : wz.drew.cell? ⟨(ad.add (j * 3)).block, (ad.add (j * 3)).off + 1, none⟩ = some (.string t) := m1
        have x6 : wz.drew.cell? ⟨(ad.add (j * 3)).block, (ad.add (j * 3)).off + 2, none⟩ = some (.int .i64 n) := m2
        go_region_held3 (fun x => x.cell? ⟨b, 0, none⟩ = some (.string S.room) ∧ x.cell? ⟨b, 1, none⟩ = some (.slice A5 S.events.length c5) ∧ x.cell? ⟨b, 2, none⟩ = some (.int .i64 S.used) ∧ x.cell? ⟨b, 3, none⟩ = some (.slice A6 S.queue.length c6) ∧ x.cell? (ad.add (j * 3)) = some (.int .i64 k) ∧ x.cell? ⟨(ad.add (j * 3)).block, (ad.add (j * 3)).off + 1, none⟩ = some (.string t) ∧ x.cell? ⟨(ad.add (j * 3)).block, (ad.add (j * 3)).off + 2, none⟩ = some (.int .i64 n) ∧ Below wz.heap.size wz x) (first | (refine ⟨?_, ?_, ?_, ?_, ?_, ?_, ?_, ?_⟩ <;> assumption) | go_keep)
          (first
            | (go_at_call 18; refine (HDO.out _ (HVZ.out.below ?_)).mono ?_; assumption; rintro e w6 ⟨rfl, hb6⟩; obtain ⟨y0, y1, y2, y3, y4, y5, y6, hx6⟩ := keep7B (a0 := ⟨b, 0, none⟩) (a1 := ⟨b, 1, none⟩) (a2 := ⟨b, 2, none⟩) (a3 := ⟨b, 3, none⟩) (a4 := ad.add (j * 3)) (a5 := ⟨(ad.add (j * 3)).block, (ad.add (j * 3)).off + 1, none⟩) (a6 := ⟨(ad.add (j * 3)).block, (ad.add (j * 3)).off + 2, none⟩) (by assumption) (by assumption) (by assumption) (by assumption) (by assumption) (by assumption) (by assumption) (by assumption) hb6))
        have HP6 := Lib.hid (HIZ.out.below hx6)
        have HBLK6 := Lib.hid ((hx6.block b (Array.getElem?_eq_some_iff.1 HBLK.out).1).trans HBLK.out)
        clear x0 x1 x2 x3 x4 x5 x6 y0 y1 y2 y3 hbx d0 d1 d2 d3 m0 m1 m2 hb6 hx6 HDO HIZ HBLK
        go_upto_if 79 with (go_at_call 19; refine (HD11.out _ HP6.out.st).mono ?_; rintro e w7 ⟨rfl, ⟨F7, u7, hu7, hs7, hF7⟩, hf7⟩; have HS7 := Lib.hid hs7; have HF7 := Lib.hid hF7; have HFR7 := Lib.hid hf7; clear hs7 hF7 hf7)
        have hb6s : b < w6.heap.size := (Array.getElem?_eq_some_iff.1 HBLK6.out).1
        have HBLK7 := Lib.hid ((HFR7.out.block b hb6s (by have := HBF.out; rintro (e | e | e | e); exact this.2.1.1 e; exact this.2.1.2.1 e; exact this.2.1.2.2 e; exact this.1 e)).trans HBLK6.out)
        have hF7b : ¬ F7 b := fun hc => HBF.out.1 (HF7.out b hb6s hc)
        have hb7s : b < w7.heap.size := (Array.getElem?_eq_some_iff.1 HBLK7.out).1
        clear y4 y5 y6
        go_cut [6] (fun rv8 wx => ∃ (F8 : Nat → Prop) (u8 : Nat) (recs8 : List ByteArray), PInv w wx C g q p r F8 (j + 1) u8 recs8 rv8 ∧ wx.heap[b]? = some (.cells #[.string S.room, .slice A5 S.events.length c5, .int .i64 S.used, .slice A6 S.queue.length c6] 35) ∧ ¬ F8 b ∧ rv8.ownBlock ≠ some b)
        case first =>
          by_cases hX0 : X = 0
          · have hb0 : (X == 0) = true := by rw [hX0]; rfl
            have hs := HS7.out
            rw [if_pos hX0, ← HRK.out hX0] at hs
            have HS8 := Lib.hid hs
            have HLD := Lib.hid (HP6.out.laid hs HF7.out HFR7.out)
            obtain ⟨i0, hii0, hz0, hz1, hz2⟩ := info_parts info_str
            rw [hb0]
            clear hs hX0 hb0
            go_wp2_with (at_builtin; refine wpList_append_strs _ rfl (.tmp 80) (.tmp 82) 22 rfl w.heap.size 9 i0 Tryd.underlying22 hii0 hz0 hz1 hz2 _ recs [R] rfl (HLD.out.1.alloc _) (some ⟨w7.heap.size, 0, none⟩) 1 rfl (one_str _ _ _) (by simp only [List.length_cons, List.length_nil]; omega) (by rw [asz]; have := HLD.out.2.2.size; omega) ?_; intro v' w8 hown8 hg8 hat8; have HP8 := Lib.hid (HP6.out.push hu7 HS8.out HF7.out HFR7.out hown8 hg8 hat8); have HBLK8 := Lib.hid (((hg8.block b (by rw [asz]; omega) (fun e => HBF.out.2.2.1 e.symm)).trans (Below.heap_alloc _ _ _ hb7s)).trans HBLK7.out); have hat9 : v'.ownBlock ≠ some b := own_new_ne hat8 HBF.out.2.2.1 (by rw [asz]; omega))
            go_meet
            case rel => exact ⟨F7, u7, recs ++ [R], HP8.out, HBLK8.out, hF7b, hat9⟩
          · have hb0 : (X == 0) = false := by rw [beq_eq_false_iff_ne]; exact hX0
            have hs := HS7.out
            rw [if_neg hX0] at hs
            rw [hb0]
            clear hb0
            go_wp2_with fail
            go_meet
            case rel => exact ⟨F7, u7, recs, HP6.out.skip hu7 hs HF7.out HFR7.out, HBLK7.out, hF7b, HBF.out.2.2.1⟩
        case rest =>
          obtain ⟨F8, u8, recs8, hp8, hblk8, hF8, hrv8⟩ := hcut
          have hr8 := hp8.len
          obtain ⟨A8, c8, rfl, hc8, hr8r, _⟩ := own_read hp8.row (by omega)
          have HOF8 := Lib.hid (of_st hp8 (by omega))
          have hb8 : b < wc.heap.size := (Array.getElem?_eq_some_iff.1 hblk8).1
          obtain ⟨S8, hS8⟩ : ∃ S8, S8 = ofS recs8 := ⟨_, rfl⟩
          have hl8 := ofS_len hp8.st
          rw [← hS8] at HOF8 hl8
          have HS8e := Lib.hid hS8
          have HP8 := Lib.hid hp8
          have HBLK8 := Lib.hid hblk8
          have HNB := Lib.hid (And.intro hF8 hrv8)
          clear hp8 hblk8 hS8 hF8 hrv8 hr8r HP6 HBLK6 HBLK7 HS7 HF7 HFR7 HD11 HRK hF7b hb7s hb6s
          go_upto_region 18 with (go_at_call 13; refine HOF8.out.mono ?_; rintro e w9 ⟨v9, rfl, hv9, hfar9, hb9⟩; obtain ⟨B5, e5, B6, e6, rfl, hx9⟩ := hv9.out; obtain ⟨d0, d1, d2, d3, df⟩ := box4f ((hb9.block b hb8).trans HBLK8.out); have df0 := df 0; have df1 := df 1; have df2 := df 2; have df3 := df 3; have HV9 := Lib.hid hv9; have HFAR9 := Lib.hid hfar9; have HB9 := Lib.hid hb9; have HBLK9 := Lib.hid ((hb9.block b hb8).trans HBLK8.out); have HP9 := Lib.hid (HP8.out.below hb9); clear hv9 hfar9 hb9 hx9 df)
          have hw0 : w.heap.size ≤ b := HBF.out.2.2.2
          have hbpq : b ≠ p ∧ b ≠ r ∧ b ≠ q ∧ ¬ F8 b := ⟨HBF.out.2.1.1, HBF.out.2.1.2.1, HBF.out.2.1.2.2, HNB.out.1⟩
          obtain ⟨wz, hwz⟩ : ∃ wz, wz = ((((w9.setCell ⟨b, 0, none⟩ (.string S8.room)).setCell ⟨b, 1, none⟩ (.slice B5 S8.events.length e5)).setCell ⟨b, 2, none⟩ (.int .i64 S8.used)).setCell ⟨b, 3, none⟩ (.slice B6 S8.queue.length e6)) := ⟨_, rfl⟩
          have HPZ := Lib.hid (show PInv w wz C g q p r F8 (j + 1) u8 recs8 (.slice A8 recs8.length c8) by rw [hwz]; exact HP9.out.set4 hw0 hbpq HNB.out.2 _ _ _ _)
          have HVZ := Lib.hid (show SVal wz (.agg #[.string S8.room, .slice B5 S8.events.length e5, .int .i64 S8.used, .slice B6 S8.queue.length e6]) S8 from HV9.out.far HFAR9.out (fun k h1 _ => by
            have hne : k ≠ b := by omega
            rw [hwz, Below.heap_setCell _ _ _ _ hne, Below.heap_setCell _ _ _ _ hne, Below.heap_setCell _ _ _ _ hne, Below.heap_setCell _ _ _ _ hne]))
          have hblkz : wz.heap[b]? = some (.cells #[.string S8.room, .slice B5 S8.events.length e5, .int .i64 S8.used, .slice B6 S8.queue.length e6] 35) := by rw [hwz]; exact setCell_row _ (setCell_row _ (setCell_row _ (setCell_row _ HBLK9.out)))
          rw [← hwz]
          clear hwz d0 d1 d2 d3 df0 df1 df2 df3 hbpq hw0
          obtain ⟨d0, d1, d2, d3, _⟩ := box4f hblkz
          clear hblkz
          have hbx := (Below.refl wz.heap.size wz).drew
          have x0 : wz.drew.cell? ⟨b, 0, none⟩ = some (.string S8.room) := d0
          have x1 : wz.drew.cell? ⟨b, 1, none⟩ = some (.slice B5 S8.events.length e5) := d1
          have x2 : wz.drew.cell? ⟨b, 2, none⟩ = some (.int .i64 S8.used) := d2
          have x3 : wz.drew.cell? ⟨b, 3, none⟩ = some (.slice B6 S8.queue.length e6) := d3
          have HSZ := Lib.hid (show StRep wz C g q S8 by rw [HS8e.out]; exact HPZ.out.st.st)
          go_region_held3 (fun x => x.cell? ⟨b, 0, none⟩ = some (.string S8.room) ∧ x.cell? ⟨b, 1, none⟩ = some (.slice B5 S8.events.length e5) ∧ x.cell? ⟨b, 2, none⟩ = some (.int .i64 S8.used) ∧ x.cell? ⟨b, 3, none⟩ = some (.slice B6 S8.queue.length e6) ∧ Below wz.heap.size wz x) (first | (refine ⟨?_, ?_, ?_, ?_, ?_⟩ <;> assumption) | go_keep)
            (first
              | (go_at_call 16; refine (state_own (HSZ.out.below ?_) ⟨?_, ?_⟩).mono ?_; assumption; omega; omega; rintro e w7 ⟨v7, rfl, hv7, _, hb7⟩; obtain ⟨y0, y1, y2, y3, hx7⟩ := keep4B (g := b) (by assumption) (by assumption) (by assumption) (by assumption) (by assumption) hb7)
              | (go_at_call 15; refine (as_any hv7).mono ?_; rintro e w8 ⟨rfl, hb8⟩; have hv8 := hv7.below hb8; obtain ⟨z0, z1, z2, z3, hx8⟩ := keep4B (g := b) (by assumption) (by assumption) (by assumption) (by assumption) (by assumption) hb8)
              | (go_at_call 14; refine (same_any hv8 (HVZ.out.below ?_)).mono ?_; assumption; rintro e w10 ⟨rfl, hb10⟩; rw [sameB_self]; obtain ⟨t0, t1, t2, t3, hx10⟩ := keep4B (g := b) (by assumption) (by assumption) (by assumption) (by assumption) (by assumption) hb10))
          go_wp2_with fail
          go_roundw
          case rel => exact ⟨j + 1, u8, recs8, F8, by go_num, by omega, HPZ.out.below hx10⟩
          case measure => simp [intOf]; omega
      · obtain rfl : j = l.length := by omega
        have hl8 := ofS_len HI.out.st
        rw [← HS.out] at hl8
        have HOA := Lib.hid (fun (W : World) (h : Store11 W C g q p r F l.length u 1048576 recs) => open_again h (by omega))
        rw [← HS.out] at HOA
        go_upto_region 21 with (go_at_call 13; refine HOF.out.mono ?_; rintro e w5 ⟨v5, rfl, hv5, hfar5, hb5⟩; obtain ⟨A5, c5, A6, c6, rfl, hx5⟩ := hv5.out; have HV5 := Lib.hid hv5; have HFAR5 := Lib.hid hfar5; have HB5 := Lib.hid hb5; clear hv5 hb5 hx5 hfar5)
        obtain ⟨wz, hwz⟩ : ∃ wz, wz = w5.alloc (.cells #[.string S.room, .slice A5 S.events.length c5, .int .i64 S.used, .slice A6 S.queue.length c6] 35) := ⟨_, rfl⟩
        have hbz : Below w5.heap.size w5 wz := by rw [hwz]; exact ba_size _ _ _
        have hblk : wz.heap[w5.heap.size]? = some (.cells #[.string S.room, .slice A5 S.events.length c5, .int .i64 S.used, .slice A6 S.queue.length c6] 35) := by rw [hwz]; exact heap_alloc_new _ _
        have hpr : p < wr.heap.size ∧ r < wr.heap.size := by
          obtain ⟨D, L, segs, S, h, _, _⟩ := HI.out.st
          exact ⟨h.dsk.lt, h.dsk.2.lt⟩
        have hz5 := HB5.out.size
        have HIZ := Lib.hid ((HI.out.below HB5.out).below hbz)
        have HVZ := Lib.hid (HV5.out.below hbz)
        have hbs : w5.heap.size < wz.heap.size := (Array.getElem?_eq_some_iff.1 hblk).1
        have HBLK := Lib.hid hblk
        rw [← hwz]
        clear hwz hbz hblk
        go_upto_region 22 with (go_at_call 12; refine (HOA.out _ HIZ.out.st).mono ?_; rintro e w6 ⟨C6, g6, q6, rfl, hs6, hf6⟩; have HS6 := Lib.hid hs6; have HF6 := Lib.hid hf6; clear hs6 hf6)
        have HB6 := Lib.hid (HF6.out.to_below HIZ.out.bel HIZ.out.hp HIZ.out.hr HIZ.out.bel.size)
        have HV6 := Lib.hid (HVZ.out.bfr HFAR5.out hpr.1 hpr.2 HF6.out (Nat.le_refl _))
        obtain ⟨d0, d1, d2, d3, _⟩ := box4f ((HF6.out.block w5.heap.size hbs (by rintro (e | e | e) <;> omega)).trans HBLK.out)
        have hbx := (Below.refl w6.heap.size w6).drew
        have x0 : w6.drew.cell? ⟨w5.heap.size, 0, none⟩ = some (.string S.room) := d0
        have x1 : w6.drew.cell? ⟨w5.heap.size, 1, none⟩ = some (.slice A5 S.events.length c5) := d1
        have x2 : w6.drew.cell? ⟨w5.heap.size, 2, none⟩ = some (.int .i64 S.used) := d2
        have x3 : w6.drew.cell? ⟨w5.heap.size, 3, none⟩ = some (.slice A6 S.queue.length c6) := d3
        go_region_held3 (fun x => x.cell? ⟨w5.heap.size, 0, none⟩ = some (.string S.room) ∧ x.cell? ⟨w5.heap.size, 1, none⟩ = some (.slice A5 S.events.length c5) ∧ x.cell? ⟨w5.heap.size, 2, none⟩ = some (.int .i64 S.used) ∧ x.cell? ⟨w5.heap.size, 3, none⟩ = some (.slice A6 S.queue.length c6) ∧ Below w6.heap.size w6 x) (first | (refine ⟨?_, ?_, ?_, ?_, ?_⟩ <;> assumption) | go_keep)
          (first
            | (go_at_call 16; refine (state_own (HS6.out.below ?_) ⟨?_, ?_⟩).mono ?_; assumption; omega; omega; rintro e w7 ⟨v7, rfl, hv7, _, hb7⟩; obtain ⟨y0, y1, y2, y3, hx7⟩ := keep4B (g := w5.heap.size) (by assumption) (by assumption) (by assumption) (by assumption) (by assumption) hb7)
            | (go_at_call 15; refine (as_any hv7).mono ?_; rintro e w8 ⟨rfl, hb8⟩; have hv8 := hv7.below hb8; obtain ⟨z0, z1, z2, z3, hx8⟩ := keep4B (g := w5.heap.size) (by assumption) (by assumption) (by assumption) (by assumption) (by assumption) hb8)
            | (go_at_call 14; refine (same_any hv8 (HV6.out.below ?_)).mono ?_; assumption; rintro e w10 ⟨rfl, hb10⟩; rw [sameB_self]; obtain ⟨t0, t1, t2, t3, hx10⟩ := keep4B (g := w5.heap.size) (by assumption) (by assumption) (by assumption) (by assumption) (by assumption) hb10))
        go_wp2_with fail
        go_ret
        exact ⟨rfl, HB6.out.trans (hx10.mono HB6.out.size)⟩

end Go.Proofs.YtdogmcpmlglkfaaDoor

namespace Go.Proofs.YtdogmcpmlglkfaaDoor
open Go.RowKit Go.Proofs.YtdogmcpmlglkfaaDoorW.PrintWords Go.Proofs.YtdogmcpmlglkfaaDoor.PRef

/-- A slice over a block of texts, whatever they are. -/
def RowAt (w : World) (B B2 : Nat) (A : Option Addr) (n c : Nat) : Prop := (n = 0) ∨ ∃ g cur, A = some ⟨g, 0, none⟩ ∧ B ≤ g ∧ g < B2 ∧ w.heap[g]? = some (.cells cur 9 (0, 0)) ∧ n ≤ cur.size

theorem RowAt.of_own {w : World} {B : Nat} {A : Option Addr} {n c : Nat} {xs : List Value} (h : w.ownsRow B 9 1 (.slice A n c) n xs) : RowAt w B w.heap.size A n c := by
  rcases h.2 with ⟨_, h0⟩ | ⟨g, cap, cur, hv, hb, hg, hn, hm, hs, ht⟩
  · exact .inl h0
  · simp only [Value.slice.injEq] at hv
    obtain ⟨rfl, _, rfl⟩ := hv
    exact .inr ⟨g, cur, rfl, hb, (Array.getElem?_eq_some_iff.1 hg).1, hg, by omega⟩

theorem RowAt.move {w w' : World} {B B2 : Nat} {A : Option Addr} {n c : Nat} (h : RowAt w B B2 A n c) (hm : ∀ k, k < B2 → w'.heap[k]? = w.heap[k]?) : RowAt w' B B2 A n c := by
  rcases h with h | ⟨g, cur, e, hb, hb2, hg, hn⟩
  · exact .inl h
  · exact .inr ⟨g, cur, e, hb, hb2, (hm g hb2).trans hg, hn⟩

theorem RowAt.set {w : World} {B B2 : Nat} {A : Option Addr} {n c : Nat} (h : RowAt w B B2 A n c) (b j : Nat) (v : Value) : RowAt (w.setCell ⟨b, j, none⟩ v) B B2 A n c := by
  rcases h with h | ⟨g, cur, e, hb, hb2, hg, hn⟩
  · exact .inl h
  · by_cases hag : b = g
    · subst hag
      exact .inr ⟨b, _, e, hb, hb2, setCell_row v hg, by simpa using hn⟩
    · exact .inr ⟨g, cur, e, hb, hb2, (Below.heap_setCell _ _ _ _ (fun e => hag e.symm)).trans hg, hn⟩

theorem RowAt.at {w : World} {B B2 : Nat} {A : Option Addr} {n c : Nat} (h : RowAt w B B2 A n c) {i : Nat} (hi : i < n) : ∃ ad g u, A = some ad ∧ ad.add i = ⟨g, i, none⟩ ∧ B ≤ g ∧ g < B2 ∧ w.cell? (ad.add i) = some u ∧ w.frozen? (ad.add i) = false := by
  rcases h with h | ⟨g, cur, e, hb, hb2, hg, hn⟩
  · omega
  · have ha : (⟨g, 0, none⟩ : Addr).add i = ⟨g, i, none⟩ := by rw [addk']; simp
    refine ⟨_, g, cur[i], e, ha, hb, hb2, ?_, ?_⟩
    · rw [ha]
      simp only [World.cell?, hg]
      exact Array.getElem?_eq_getElem (by omega)
    · rw [ha]
      simp [World.frozen?, hg]

set_option maxHeartbeats 8000000 in
set_option maxRecDepth 100000 in
theorem sown_walk (A : Option Addr) (c : Nat) (l : List Act11) (w : World) (hc : l.length ≤ c) (hr : Kd.C k48 w A l.length l) :
    Calls Tryd.prog 5 #[.slice A l.length c] w fun e w' => e = .returned (.bool true) ∧ Below w.heap.size w w' := by
  obtain ⟨rg, hsm, hgr⟩ := great11_calls hr hc
  have HG := Lib.hid hgr
  have HR := Lib.hid hr
  clear hgr hr
  go_enter Tryd.func5, Tryd.ntmps5
  cases rg with
  | true =>
    go_wp2_with (first
      | (go_at_call 17; refine HG.out.mono ?_; rintro e w1 ⟨rfl, hd⟩; have HB1 := Lib.hid hd.below; clear hd)
      | (go_at_call 8; refine (awake11 _).mono ?_; rintro e w2 ⟨rfl, hb2⟩))
    go_ret
    exact ⟨rfl, HB1.out.trans (hb2.mono HB1.out.size)⟩
  | false =>
    obtain ⟨hs1, hs2⟩ := hsm rfl
    have HSM := Lib.hid hs2
    clear hs2 hsm
    go_wp2_with (first
      | (go_at_call 17; refine HG.out.mono ?_; rintro e w0 ⟨rfl, hd⟩; have HB0 := Lib.hid hd.below; clear hd)
      | (go_at_call 8; refine (awake11 _).mono ?_; rintro e w1 ⟨rfl, hb1⟩; have HB1 := Lib.hid (HB0.out.trans (hb1.mono HB0.out.size)); clear hb1)
      | (go_at_call 9; refine (new_ok 1048576 _ (by omega) (by omega)).mono ?_; rintro e w2 ⟨p, r, rfl, hd2, hp0, hr0, hb2⟩; have hp := Nat.le_trans HB1.out.size hp0; have hr := Nat.le_trans HB1.out.size hr0; have HD2 := Lib.hid hd2; have HB2 := Lib.hid (HB1.out.trans (hb2.mono HB1.out.size)); clear hd2 hb2 hp0 hr0)
      | (go_at_call 12; refine (open_new HD2.out (by omega) (by omega)).mono ?_; rintro e w3 ⟨C, g, q, F3, rfl, hq0, hC0, hs3, hf3⟩; have hq := Nat.le_trans HB2.out.size hq0; have hC := Nat.le_trans HB2.out.size hC0; have HS3 := Lib.hid hs3; have HB3 := Lib.hid (hf3.to_below HB2.out hp hr HB2.out.size); clear hs3 hf3 hq0 hC0))
    go_loopw [5] (fun iv wr => ∃ (j u : Nat) (recs : List ByteArray) (F : Nat → Prop), iv = .int .i64 j ∧ j ≤ l.length ∧ Store11 wr C g q p r F j u 1048576 recs ∧ u ≤ 1009 * j ∧ Below w.heap.size w wr) (fun iv _ => l.length - (intOf iv).toNat)
    case atStart => exact ⟨0, 0, [], F3, rfl, Nat.zero_le _, HS3.out, Nat.le_refl _, HB3.out⟩
    case round =>
      obtain ⟨j, u, recs, F, rfl, hj, hst, hu, hbr⟩ := hrel
      have HST := Lib.hid hst
      have HBR := Lib.hid hbr
      clear HS3 HB3 HD2 HB2 HB1 HB0 hst
      by_cases hlt : j < l.length
      · obtain ⟨ad, rfl, k0, k1, k2⟩ := act11_at (Kd.C_below HR.out hbr) hlt
        have hts := HSM.out l[j] (List.getElem_mem hlt)
        obtain ⟨⟨k, t, n⟩, hx⟩ : ∃ x, x = l[j] := ⟨_, rfl⟩
        rw [← hx] at k0 k1 k2 hts
        simp only at k0 k1 k2 hts
        have HD11 := Lib.hid (do11_any k t n hts HST.out (by omega) (by omega) (by omega))
        clear hx hbr
        go_wp2_with (go_at_call 19; refine HD11.out.mono ?_; rintro e w7 ⟨rfl, ⟨F7, u7, hu7, hs7, hF7⟩, hf7⟩; have HS7 := Lib.hid hs7; have HB7 := Lib.hid (hf7.to_below HST.out.rng HBR.out hp hr hq hC); clear hs7 hF7 hf7)
        exact ⟨⟨j + 1, u7, _, F7, by go_num, by omega, HS7.out, by omega, HB7.out⟩, by simp [intOf]; omega⟩
      · obtain rfl : j = l.length := by omega
        have hlen := ofS_len HST.out
        obtain ⟨S, hS⟩ : ∃ S, S = ofS recs := ⟨_, rfl⟩
        have hsr := HST.out.st
        rw [← hS] at hlen hsr
        have HSR := Lib.hid hsr
        have HS := Lib.hid hS
        have HSTA := Lib.hid (state_any hsr ⟨by omega, by omega⟩)
        clear hbr hS hsr
        go_upto_region 11 with (first
          | (go_at_call 16; refine HSTA.out.mono ?_; rintro e w4 ⟨A4, c4, B4, d4, rfl, ho4, hq4, hb4⟩; clear HSTA; have HE4 := Lib.hid (RowAt.of_own ho4); have HQ4 := Lib.hid (RowAt.of_own hq4); have HB4 := Lib.hid hb4; clear ho4 hq4 hb4)
          | (go_at_call 16; refine (state_any (HSR.out.below HB4.out) ⟨by omega, by omega⟩).mono ?_; rintro e w5 ⟨A5, c5, B5, d5, rfl, ho5, hq5, hb5⟩; have HO5 := Lib.hid ho5; have HQ5 := Lib.hid hq5; have HB5 := Lib.hid hb5; clear ho5 hq5 hb5))
        obtain ⟨wS, hwS⟩ : ∃ wS, wS = (w5.alloc (.cells #[.string S.room, .slice A4 S.events.length c4, .int .i64 S.used, .slice B4 S.queue.length d4] 40)).alloc (.cells #[.string S.room, .slice A5 S.events.length c5, .int .i64 S.used, .slice B5 S.queue.length d5] 40) := ⟨_, rfl⟩
        have hb6 : wS.heap[w5.heap.size]? = some (.cells #[.string S.room, .slice A4 S.events.length c4, .int .i64 S.used, .slice B4 S.queue.length d4] 40) := by rw [hwS, Below.heap_alloc _ _ _ (by rw [asz]; omega)]; exact heap_alloc_new _ _
        have hb7 : wS.heap[w5.heap.size + 1]? = some (.cells #[.string S.room, .slice A5 S.events.length c5, .int .i64 S.used, .slice B5 S.queue.length d5] 40) := by
          rw [hwS, ← asz w5 (.cells #[.string S.room, .slice A4 S.events.length c4, .int .i64 S.used, .slice B4 S.queue.length d4] 40)]
          exact heap_alloc_new _ _
        have hbS : Below w5.heap.size w5 wS := by rw [hwS]; exact (ba_size _ _ _).alloc (by rw [asz]; omega) _
        have hz4 := HB4.out.size
        have hz5 := HB5.out.size
        obtain ⟨wo, rfl⟩ : ∃ wo : World, wo = wr := ⟨_, rfl⟩
        have hzS := hbS.size
        have hs7 : w5.heap.size + 1 < wS.heap.size := (Array.getElem?_eq_some_iff.1 hb7).1
        have hbo : Below wo.heap.size wo wS := HB4.out.trans ((HB5.out.mono hz4).trans (hbS.mono (by omega)))
        have HBO := Lib.hid hbo
        have HE := Lib.hid (HE4.out.move (w' := wS) (fun k hk => (hbS.block k (by omega)).trans (HB5.out.block k hk)))
        have HQ := Lib.hid (HQ4.out.move (w' := wS) (fun k hk => (hbS.block k (by omega)).trans (HB5.out.block k hk)))
        obtain ⟨Ao, co, e1, hco, ro, _⟩ := own_read (own_below HO5.out hbS) (by omega)
        obtain ⟨Aq, cq, e2, hcq, rq, _⟩ := own_read (own_below HQ5.out hbS) (by omega)
        cases e1
        cases e2
        have HVS := Lib.hid (show SVal wS (.agg #[.string S.room, .slice A5 S.events.length c5, .int .i64 S.used, .slice B5 S.queue.length d5]) S from ⟨⟨_, _, _, _, rfl, hco, hcq, by omega, by omega, ro, rq⟩⟩)
        have HFAR := Lib.hid (show SFar w4.heap.size (.agg #[.string S.room, .slice A5 S.events.length c5, .int .i64 S.used, .slice B5 S.queue.length d5]) from SFar.mk (fun ad e => by subst e; exact (HO5.out.lt _ rfl).1) (fun ad e => by subst e; exact (HQ5.out.lt _ rfl).1))
        have HB6 := Lib.hid hb6
        have HB7 := Lib.hid hb7
        rw [← hwS]
        clear hwS hb6 hb7 hbS hbo ro rq HE4 HQ4 HO5 HQ5
        go_wp2_with fail
        go_loopw [8] (fun iv wl => ∃ i : Nat, iv = .int .i64 i ∧ i ≤ S.events.length ∧ Fr (fun k => wo.heap.size ≤ k ∧ k < w4.heap.size) wS wl ∧ RowAt wl wo.heap.size w4.heap.size A4 S.events.length c4 ∧ RowAt wl wo.heap.size w4.heap.size B4 S.queue.length d4) (fun iv _ => S.events.length - (intOf iv).toNat)
        case atStart => exact ⟨0, rfl, Nat.zero_le _, Fr.refl _ _, HE.out, HQ.out⟩
        case round =>
          obtain ⟨i, rfl, hi, hfl, hel, hql⟩ := hrel
          have HFL := Lib.hid hfl
          have HQL := Lib.hid hql
          obtain ⟨d0, d1, d2, d3, _⟩ := box4f ((hfl.block w5.heap.size (by omega) (by omega)).trans HB6.out)
          by_cases hlt : i < S.events.length
          · obtain ⟨ad, gg, uu, rfl, ha, hg1, hg2, hcell, hfz⟩ := hel.at hlt
            have hstep : ∀ v, Fr (fun k => wo.heap.size ≤ k ∧ k < w4.heap.size) wS (wr.setCell (ad.add i) v) ∧ RowAt (wr.setCell (ad.add i) v) wo.heap.size w4.heap.size (some ad) S.events.length c4 ∧ RowAt (wr.setCell (ad.add i) v) wo.heap.size w4.heap.size B4 S.queue.length d4 := fun v => by
              rw [ha]
              exact ⟨hfl.setCell (.inr ⟨hg1, hg2⟩) v, hel.set gg i v, hql.set gg i v⟩
            have HSTEP := Lib.hid hstep
            clear hfl hel hql hstep ha
            go_wp2_with fail
            exact ⟨⟨i + 1, by go_num, by omega, (HSTEP.out _).1, (HSTEP.out _).2.1, (HSTEP.out _).2.2⟩, by simp [intOf]; omega⟩
          · clear hel hfl hql
            go_wp2_with fail
            obtain ⟨wx, rfl⟩ : ∃ wx : World, wx = wr := ⟨_, rfl⟩
            clear d0 d1 d2 d3
            go_loopw [9] (fun iv wl => ∃ i : Nat, iv = .int .i64 i ∧ i ≤ S.queue.length ∧ Fr (fun k => wo.heap.size ≤ k ∧ k < w4.heap.size) wS wl ∧ RowAt wl wo.heap.size w4.heap.size B4 S.queue.length d4) (fun iv _ => S.queue.length - (intOf iv).toNat)
            case atStart => exact ⟨0, rfl, Nat.zero_le _, HFL.out, HQL.out⟩
            case round =>
              obtain ⟨i2, rfl, hi2, hfl, hql⟩ := hrel
              have HFL2 := Lib.hid hfl
              obtain ⟨d0, d1, d2, d3, _⟩ := box4f ((hfl.block w5.heap.size (by omega) (by omega)).trans HB6.out)
              by_cases hlt2 : i2 < S.queue.length
              · obtain ⟨ad, gg, uu, rfl, ha, hg1, hg2, hcell, hfz⟩ := hql.at hlt2
                have hstep : ∀ v, Fr (fun k => wo.heap.size ≤ k ∧ k < w4.heap.size) wS (wr.setCell (ad.add i2) v) ∧ RowAt (wr.setCell (ad.add i2) v) wo.heap.size w4.heap.size (some ad) S.queue.length d4 := fun v => by
                  rw [ha]
                  exact ⟨hfl.setCell (.inr ⟨hg1, hg2⟩) v, hql.set gg i2 v⟩
                have HSTEP := Lib.hid hstep
                clear hfl hql hstep ha
                go_wp2_with fail
                exact ⟨⟨i2 + 1, by go_num, by omega, (HSTEP.out _).1, (HSTEP.out _).2⟩, by simp [intOf]; omega⟩
              · have HVZ := Lib.hid (HVS.out.far HFAR.out (fun k h1 h2 => hfl.block k h2 (by omega)))
                have hpq : p < wo.heap.size ∧ r < wo.heap.size ∧ q < wo.heap.size := by
                  obtain ⟨D, L, segs, S', h, _, _⟩ := HST.out
                  exact ⟨h.dsk.lt, h.dsk.2.lt, h.log.lt⟩
                have HSZ := Lib.hid (show StRep wr C g q S from by
                  have h1 := (HST.out.move (w' := wr) (fun k hk _ => (hfl.block k (by omega) (by omega)).trans (HBO.out.block k hk)) (by have := hfl.size; omega)).st
                  rw [← HS.out] at h1
                  exact h1)
                have HBZ := Lib.hid (show Below w.heap.size w wr from (HBR.out.trans (HBO.out.mono HBR.out.size)).trans (hfl.to_below (B := w.heap.size) (by have := HBR.out.size; omega) (fun k hk hc => by have := HBR.out.size; omega)))
                obtain ⟨g0, g1, g2, g3, _⟩ := box4f ((hfl.block (w5.heap.size + 1) hs7 (by omega)).trans HB7.out)
                clear hfl hql
                go_wp2_with fail
                have hbx := (Below.refl wr.heap.size wr).drew
                have x0 : wr.drew.cell? ⟨w5.heap.size + 1, 0, none⟩ = some (.string S.room) := g0
                have x1 : wr.drew.cell? ⟨w5.heap.size + 1, 1, none⟩ = some (.slice A5 S.events.length c5) := g1
                have x2 : wr.drew.cell? ⟨w5.heap.size + 1, 2, none⟩ = some (.int .i64 S.used) := g2
                have x3 : wr.drew.cell? ⟨w5.heap.size + 1, 3, none⟩ = some (.slice B5 S.queue.length d5) := g3
                go_region_held3 (fun x => x.cell? ⟨w5.heap.size + 1, 0, none⟩ = some (.string S.room) ∧ x.cell? ⟨w5.heap.size + 1, 1, none⟩ = some (.slice A5 S.events.length c5) ∧ x.cell? ⟨w5.heap.size + 1, 2, none⟩ = some (.int .i64 S.used) ∧ x.cell? ⟨w5.heap.size + 1, 3, none⟩ = some (.slice B5 S.queue.length d5) ∧ Below wr.heap.size wr x) (first | (refine ⟨?_, ?_, ?_, ?_, ?_⟩ <;> assumption) | go_keep)
                  (first
                    | (go_at_call 16; refine (state_own (HSZ.out.below ?_) ⟨?_, ?_⟩).mono ?_; assumption; omega; omega; rintro e w7 ⟨v7, rfl, hv7, _, hb7⟩; obtain ⟨A7, c7, B7, d7, rfl, _⟩ := hv7.out; obtain ⟨y0, y1, y2, y3, hx7⟩ := keep4B (g := w5.heap.size + 1) (by assumption) (by assumption) (by assumption) (by assumption) (by assumption) hb7)
                    | (go_at_call 15; refine (as_row _ _ _ _ _ _ _ _ _).mono ?_; rintro e w8 ⟨rfl, hb8⟩; have hv8 := hv7.below hb8; clear hv7; obtain ⟨z0, z1, z2, z3, hx8⟩ := keep4B (g := w5.heap.size + 1) (by assumption) (by assumption) (by assumption) (by assumption) (by assumption) hb8)
                    | (go_at_call 15; refine (as_row _ _ _ _ _ _ _ _ _).mono ?_; rintro e w9 ⟨rfl, hb9⟩; have hv9 := hv8.below hb9; obtain ⟨z0, z1, z2, z3, hx9⟩ := keep4B (g := w5.heap.size + 1) (by assumption) (by assumption) (by assumption) (by assumption) (by assumption) hb9)
                    | (go_at_call 14; refine (same_any hv9 (HVZ.out.below ?_)).mono ?_; assumption; rintro e w10 ⟨rfl, hb10⟩; rw [sameB_self]; obtain ⟨t0, t1, t2, t3, hx10⟩ := keep4B (g := w5.heap.size + 1) (by assumption) (by assumption) (by assumption) (by assumption) (by assumption) hb10))
                go_wp2_with fail
                go_ret
                exact ⟨rfl, HBZ.out.trans (hx10.mono HBZ.out.size)⟩

end Go.Proofs.YtdogmcpmlglkfaaDoor

namespace Go.Proofs.YtdogmcpmlglkfaaDoor
open Go.ChangeShapes Go.WideShapes Go.ChangeAt Go.RowKit Go.Proofs.YtdogmcpmlglkfaaDoorW.PrintWords Go.Proofs.YtdogmcpmlglkfaaDoor.PRef

set_option maxRecDepth 100000 in
theorem storeOwn_lifted (os : Os) (started : os.Started) (H : Type) (enc : TypeId × Value → H) :
    ReturnsInHanded {} Tryd.checked os 5 .any (fun w args => (Rows.storeOwnSpec.pre enc Tryd.prog Tryd.f5 [] false w args ∧ laidMetH Tryd.prog laid3 w) ∧ sizedMet enc Tryd.prog Tryd.f5 (OpenSpec.ofChange Rows.storeOwnSpec) false w args)
      (Rows.storeOwnSpec.post enc Tryd.prog Tryd.f5 false true false false) := by
  refine returnsInHanded_of_change_and (C := Tryd.checked) (X := fun w _ => laidMetH Tryd.prog laid3 w) (fun _ _ _ hh h => h.of_heap hh) own0 started (by kernel_rfl) Tryd.func5
    (ChangeSpec.witness_shaped (enc := enc) (C := Tryd.checked) (os := os) (X := fun w _ => laidMetH Tryd.prog laid3 w) false (World.doorLaid Tryd.prog 24 os) #[.slice none 0 0] 8 rfl (World.shaped_of_RefB (by kernel_rfl) (by kernel_rfl)) (by kernel_rfl) (by kernel_rfl) (by kernel_rfl) (door_met os _)) ?_
  intro W base args ds gs before hval0 hW _ _ _ _
  have hval : ∀ (j : Nat) t v, Tryd.f5.params[j]? = some t → args[j]? = some v → Value.okWide Tryd.prog W .any base t v := hval0
  have hW' := hW
  obtain ⟨p, q, hA0, hV, rfl, hfz, hnd⟩ := hW
  have hA : DataW.TrodAll enc Tryd.prog W 0 (fun _ => true) true Tryd.f5.params.toList args.toList ds p := hA0
  rw [Tryd.params5] at hA hval
  obtain ⟨v0, vs0, d0, ds0, p0, q0, hargs, rfl, rfl, h0, r0⟩ := trodAll_cons hA
  obtain ⟨rfl, rfl, rfl⟩ := trodAll_nil r0
  obtain rfl : args = #[v0] := by cases args; simp_all
  obtain ⟨rfl, rfl⟩ := trodVars_none hV
  obtain ⟨A0, n0, c0, rfl⟩ := okWide_slice Tryd.underlying43 (hval 0 43 v0 rfl rfl)
  have k0 := h0
  have lt0 : ∀ x ∈ p0, x.block < W.heap.size := by obtain ⟨m, hm⟩ := k0; exact DataW.trod_lt m _ _ _ hm
  obtain ⟨m0, hm0⟩ := h0
  obtain ⟨x0, hy0, hz0⟩ := Opens.slice Tryd.underlying43 (by kernel_rfl) (act11_opens enc W _ _) m0 _ _ hm0
  obtain ⟨B0, e0, E0, l0, g0⟩ := hy0
  cases E0
  have hh0 := hz0.2
  clear hA0 hval0
  refine (sown_walk A0 c0 x0 W l0 g0).mono fun e W' ⟨he, bel⟩ => ?_
  subst he
  exact ⟨_, rfl, _, _, _, [], _, [], hW', trodAll_mk1 (shut_bool Tryd.underlying4 _), (trodAll_cons_mk (Below.trod laid (by kernel_rfl) (of_decide_eq_true (by kernel_rfl)) k0 bel lt0) trodAll_mk0), rfl, bel.frame _, fun h => by cases h⟩

theorem storeOwn_over : Rows.storeOwnRow.holds Tryd.pinned (OpenSpec.ofChange Rows.storeOwnSpec) :=
  OpenClaim.holds_of_wide 5 Tryd.f5 rfl rfl rfl rfl rfl rfl rfl ⟨rfl, rfl, rfl, rfl, rfl⟩ rfl rfl rfl rfl rfl (by kernel_rfl) Tryd.func5 (by kernel_rfl)
    (of_decide_eq_true (by kernel_rfl)) (by unfold Func.isWrapper; first | (rw [if_pos (by decide +kernel)]; kernel_rfl) | (rw [if_neg (by decide +kernel)]; exact ⟨rfl, rfl⟩))
    (fun os started H enc _ => storeOwn_lifted os started H enc)

/-- The tied card. -/
theorem storeOwn_holds : Rows.StoreOwnCardSaid :=
  Claim7.holds_tied_plain_at .later [] [.data, .data, .data] true (true, "a5c72920e2d8d871e44f861bacea2d9b9941351a971a0a9d7a99f6218acb976c") false
    storeOwn_over (fun _ h => by cases h) (by kernel_rfl) (fun _ h => by cases h) storeOwn_row_tie rfl ⟨rfl, rfl⟩ (by kernel_rfl) rfl
    (fun f fn hf hfn => by
      obtain rfl : f = 5 := Option.some.inj ((show Tryd.prog.funcNamed "palaver/palaverlaw11.StoreOwn" = some 5 by kernel_rfl).symm.trans hf) |>.symm
      obtain rfl : fn = Tryd.f5 := (Option.some.inj (Tryd.func5.symm.trans hfn)).symm
      exact ⟨by kernel_rfl, fun j t ht => by
        rw [Tryd.params5] at ht
        have hm : t ∈ [43] := by simpa using Array.mem_of_getElem? ht
        have hall : ([43].all fun u => !Tryd.prog.wantsStandIn u) = true := by kernel_rfl
        exact (show Tryd.prog.wantsStandIn t = false by simpa using List.all_eq_true.1 hall t hm)⟩)
    (by kernel_rfl)
#print axioms storeOwn_holds

end Go.Proofs.YtdogmcpmlglkfaaDoor
