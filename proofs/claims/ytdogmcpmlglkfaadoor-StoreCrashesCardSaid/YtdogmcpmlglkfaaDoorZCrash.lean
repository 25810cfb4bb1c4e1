/- StoreCrashes: crashes in plain, the walks, the row and the tied card. -/
import Derived.Test.YtdogmcpmlglkfaaDoorZD

namespace Go.Proofs.YtdogmcpmlglkfaaDoor
open Go.RowKit Go.Proofs.YtdogmcpmlglkfaaDoorW.PrintWords Go.Proofs.YtdogmcpmlglkfaaDoor.PRef

/-- A log that stands. -/
def Log11 (w : World) (q p r m u : Nat) (rm : Int) (recs : List ByteArray) : Prop := ∃ D L segs, LogRep w q p L ∧ DRep w p r D ∧ LInv m u D L segs ∧ segs.flatten = recs ∧ D.armed = false ∧ D.room = rm

theorem log_new {w : World} {p r : Nat} {rm : Int} (hd : DRep w p r ⟨rm, false, 0, false, []⟩) (h0 : 0 ≤ rm) (h1 : rm ≤ 4194304) :
    Calls Tryd.prog 10 #[.pointer (some ⟨p, 0, none⟩), .string room] w fun e w' => ∃ q v, e = .returned (.tuple #[.pointer (some ⟨q, 0, none⟩), v, .int .i64 0]) ∧ w.heap.size ≤ q ∧ Log11 w' q p r 0 0 rm [] ∧ BFr w.heap.size p r w w' := by
  refine (logOpen_any room hd (fresh_ok h0 h1) (by rw [room_size]; omega) (open_cap room_le (fresh_datas rm) rfl rfl (Nat.zero_le _) (fun _ h => by cases h) tail_nil (Nat.zero_le _))).mono ?_
  rintro e w' ⟨x, D', L', all, hend, hd', hf, hx⟩
  obtain ⟨rfl, rfl, h3⟩ := openEnd_of room_le (fresh_datas rm) rfl rfl (Nat.zero_le _) (fun _ h => by cases h) tail_nil hend
  obtain ⟨rfl, rfl⟩ := h3 rfl
  rcases hx with ⟨_, q, v, hq, rfl, hlog, _⟩ | ⟨hc, _⟩
  · refine ⟨q, v, rfl, hq, ⟨_, _, [], hlog, hd', ?_, rfl, rfl, rfl⟩, hf⟩
    exact ⟨rfl, rfl, (fun rs h => by cases h), ⟨Int.le_refl 0, Int.le_refl 0⟩, rfl, (fun n _ => rfl), Nat.le_refl _, rfl, fresh_ok h0 h1, (fun _ h => by cases h), Nat.le_refl _, Nat.le_refl _, ⟨Int.le_refl 0, Int.le_refl 0⟩⟩
  · exact absurd rfl hc

theorem log_step {w : World} {q p r m u : Nat} {rm : Int} {recs : List ByteArray} (rec : ByteArray) (h : Log11 w q p r m u rm recs) (hm : m ≤ 80) (hs : rec.size ≤ 65535) (hu : ((u + (8 + rec.size) : Nat) : Int) ≤ rm) (hrm : rm ≤ 4194304) :
    Calls Tryd.prog 11 #[.pointer (some ⟨q, 0, none⟩), .string rec] w fun e w' => e = .returned (.int .i64 0) ∧ Log11 w' q p r (m + 1) (u + (8 + rec.size)) rm (recs ++ [rec]) ∧ LFr p r q w w' := by
  obtain ⟨D, L, segs, hl, hd, hi, hf, ha, rfl⟩ := h
  refine (logApp_any rec hl hd (hi.lok hm (by omega)) hi.ok).mono ?_
  rintro e w' ⟨h1, h2, h3, h4⟩
  rcases logApp_of hi hm hs hu with ⟨L', D', segs', e1, e2, e3, e4, e5⟩ | ⟨hc, _⟩
  · rw [e1] at h1 h2 h3
    exact ⟨h1, ⟨D', L', segs', h2, h3, e2, by rw [e3, hf], e4.trans ha, e5⟩, h4⟩
  · rw [ha] at hc; cases hc

theorem log_open {w : World} {q p r m u : Nat} {rm : Int} {recs : List ByteArray} (h : Log11 w q p r m u rm recs) (hm : m ≤ 80) :
    Calls Tryd.prog 12 #[.pointer (some ⟨p, 0, none⟩)] w fun e w' => ∃ a c, e = .returned (.tuple #[.pointer a, .int .i64 c]) ∧ BFr w.heap.size p r w w' ∧
      ((∃ S C g q, takesL s0 recs = some S ∧ a = some ⟨g, 0, none⟩ ∧ c = 0 ∧ StRep w' C g q S) ∨ (takesL s0 recs = none ∧ a = none ∧ c = 2)) := by
  obtain ⟨D, L, segs, hl, hd, hi, rfl, ha, rfl⟩ := h
  exact open_segs hd hi.ok hi.files.datas hi.off ha (by have := hi.lens; omega) hi.small tail_nil (by have := hi.len; omega)

theorem LFr.to_below {w0 w w' : World} {p r q : Nat} (h : LFr p r q w w') (h0 : Below w0.heap.size w0 w) (hp : w0.heap.size ≤ p) (hr : w0.heap.size ≤ r) (hq : w0.heap.size ≤ q) : Below w0.heap.size w0 w' :=
  h0.trans ⟨h.os, h.tape, h.output, h.size, fun k hk => h.block k (by have := h0.size; omega) (by rintro (e | e | e) <;> omega)⟩

theorem keep4B {wc x y : World} {g : Nat} {u0 u1 u2 u3 : Value} (h0 : x.cell? ⟨g, 0, none⟩ = some u0) (h1 : x.cell? ⟨g, 1, none⟩ = some u1) (h2 : x.cell? ⟨g, 2, none⟩ = some u2) (h3 : x.cell? ⟨g, 3, none⟩ = some u3) (h : Below wc.heap.size wc x) (hb : Below x.heap.size x y) :
    y.cell? ⟨g, 0, none⟩ = some u0 ∧ y.cell? ⟨g, 1, none⟩ = some u1 ∧ y.cell? ⟨g, 2, none⟩ = some u2 ∧ y.cell? ⟨g, 3, none⟩ = some u3 ∧ Below wc.heap.size wc y :=
  ⟨(hb.cell (World.block_lt_of_cell? _ _ h0)).trans h0, (hb.cell (World.block_lt_of_cell? _ _ h1)).trans h1, (hb.cell (World.block_lt_of_cell? _ _ h2)).trans h2, (hb.cell (World.block_lt_of_cell? _ _ h3)).trans h3, h.trans (hb.mono h.size)⟩

set_option maxHeartbeats 4000000 in
set_option maxRecDepth 100000 in
theorem sopens_walk (A : Option Addr) (c : Nat) (recs : List ByteArray) (w : World) (hc : recs.length ≤ c) (hr : Kd.C Kd.string w A recs.length recs) :
    Calls Tryd.prog 3 #[.slice A recs.length c] w fun e w' => e = .returned (.bool true) ∧ Below w.heap.size w w' := by
  have HR := Lib.hid hr
  clear hr
  by_cases hbig : 30 < recs.length
  · go_enter Tryd.func3, Tryd.ntmps3
    go_wp2_with (go_at_call 8; refine (awake11 _).mono ?_; rintro e w2 ⟨rfl, hb2⟩)
    go_ret
    exact ⟨rfl, hb2⟩
  · go_enter Tryd.func3, Tryd.ntmps3
    go_wp2_with (first
      | (go_at_call 8; refine (awake11 _).mono ?_; rintro e w1 ⟨rfl, hb1⟩; have HB1 := Lib.hid hb1; clear hb1)
      | (go_at_call 9; refine (new_ok 1048576 _ (by omega) (by omega)).mono ?_; rintro e w2 ⟨p, r, rfl, hd2, hp0, hr0, hb2⟩; have hp := Nat.le_trans HB1.out.size hp0; have hr := Nat.le_trans HB1.out.size hr0; have HD2 := Lib.hid hd2; have HB2 := Lib.hid (HB1.out.trans (hb2.mono HB1.out.size)); clear hd2 hb2 hp0 hr0)
      | (go_at_call 10; refine (log_new HD2.out (by omega) (by omega)).mono ?_; rintro e w3 ⟨q, v, rfl, hq0, hl3, hf3⟩; have hq := Nat.le_trans HB2.out.size hq0; have HL3 := Lib.hid hl3; have HB3 := Lib.hid (hf3.to_below HB2.out hp hr HB2.out.size); clear hl3 hf3 hq0))
    go_loopw [7] (fun iv wr => ∃ j u : Nat, iv = .int .i64 j ∧ j ≤ recs.length ∧ u ≤ 1008 * j ∧ Log11 wr q p r j u 1048576 (recs.take j) ∧ Below w.heap.size w wr) (fun iv _ => recs.length - (intOf iv).toNat)
    case atStart => exact ⟨0, 0, rfl, Nat.zero_le _, Nat.le_refl _, HL3.out, HB3.out⟩
    case round =>
      obtain ⟨j, u, rfl, hj, hu, hlr, hbr⟩ := hrel
      have HLR := Lib.hid hlr
      have HBR := Lib.hid hbr
      clear HL3 HB3 HD2 HB2 hlr
      by_cases hlt : j < recs.length
      · obtain ⟨ad, rfl, hcell⟩ := at_str (Kd.C_below HR.out hbr) hlt
        obtain ⟨rec, hrec⟩ : ∃ rec, rec = recs[j] := ⟨_, rfl⟩
        rw [← hrec] at hcell
        have HREC := Lib.hid hrec
        clear hbr hrec
        by_cases hs : 1000 < rec.size
        · go_wp2_with fail
          go_ret
          exact ⟨rfl, HBR.out⟩
        · have HST := Lib.hid (log_step rec HLR.out (by omega) (by omega) (by omega) (by omega))
          go_wp2_with (go_at_call 11; refine HST.out.mono ?_; rintro e w4 ⟨rfl, hl4, hf4⟩; have HL4 := Lib.hid hl4; have HB4 := Lib.hid (hf4.to_below HBR.out hp hr hq); clear hl4 hf4)
          exact ⟨⟨j + 1, u + (8 + rec.size), by go_num, by omega, by omega, by rw [List.take_succ_eq_append_getElem hlt, ← HREC.out]; exact HL4.out, HB4.out⟩, by simp [intOf]; omega⟩
      · obtain rfl : j = recs.length := by omega
        rw [List.take_length] at HLR
        have HOP := Lib.hid (log_open HLR.out (by omega))
        clear hbr
        go_upto_region 15 with (go_at_call 12; refine HOP.out.mono ?_; rintro e w4 ⟨a4, c4, rfl, hf4, hx4⟩; have HX4 := Lib.hid hx4; have HB4 := Lib.hid (hf4.to_below HBR.out hp hr HBR.out.size); clear hx4 hf4)
        have HRR := Lib.hid (Kd.C_below HR.out HB4.out)
        rcases HX4.out with ⟨S, C, g, q', hS, rfl, rfl, hst⟩ | ⟨hN, rfl, rfl⟩
        · have hof := of_any HRR.out hc (by omega)
          have hS0 : ofS recs = S := by rw [ofS, hS]; rfl
          rw [hS, hS0] at hof
          have HOF := Lib.hid hof
          have hlen := takesL_len hS
          have HST := Lib.hid hst
          clear hof hS hS0 hst HX4
          go_upto_region 16 with (go_at_call 13; refine HOF.out.mono ?_; rintro e w5 ⟨v5, rfl, hv5, _, hb5⟩; obtain ⟨A5, c5, A6, c6, rfl, hx5⟩ := hv5.out; have HV5 := Lib.hid hv5; have HST5 := Lib.hid (HST.out.below hb5); have HB5 := Lib.hid (HB4.out.trans (hb5.mono HB4.out.size)); clear hv5 hb5 hx5)
          obtain ⟨wz, hwz⟩ : ∃ wz, wz = w5.alloc (.cells #[.string S.room, .slice A5 S.events.length c5, .int .i64 S.used, .slice A6 S.queue.length c6] 35) := ⟨_, rfl⟩
          have hbz : Below w5.heap.size w5 wz := by rw [hwz]; exact ba_size _ _ _
          have hblk : wz.heap[w5.heap.size]? = some (.cells #[.string S.room, .slice A5 S.events.length c5, .int .i64 S.used, .slice A6 S.queue.length c6] 35) := by rw [hwz]; exact heap_alloc_new _ _
          obtain ⟨d0, d1, d2, d3, _⟩ := box4f hblk
          have HVZ := Lib.hid (HV5.out.below hbz)
          have HSZ := Lib.hid (HST5.out.below hbz)
          have HBZ := Lib.hid (HB5.out.trans (hbz.mono HB5.out.size))
          rw [← hwz]
          clear hwz hblk hbz
          simp only [s0, List.length_nil] at hlen
          have hbx := (Below.refl wz.heap.size wz).drew
          have x0 : wz.drew.cell? ⟨w5.heap.size, 0, none⟩ = some (.string S.room) := d0
          have x1 : wz.drew.cell? ⟨w5.heap.size, 1, none⟩ = some (.slice A5 S.events.length c5) := d1
          have x2 : wz.drew.cell? ⟨w5.heap.size, 2, none⟩ = some (.int .i64 S.used) := d2
          have x3 : wz.drew.cell? ⟨w5.heap.size, 3, none⟩ = some (.slice A6 S.queue.length c6) := d3
          go_upto_region 18 with fail
          go_region_held3 (fun x => x.cell? ⟨w5.heap.size, 0, none⟩ = some (.string S.room) ∧ x.cell? ⟨w5.heap.size, 1, none⟩ = some (.slice A5 S.events.length c5) ∧ x.cell? ⟨w5.heap.size, 2, none⟩ = some (.int .i64 S.used) ∧ x.cell? ⟨w5.heap.size, 3, none⟩ = some (.slice A6 S.queue.length c6) ∧ Below wz.heap.size wz x) (first | (refine ⟨?_, ?_, ?_, ?_, ?_⟩ <;> assumption) | go_keep)
            (first
              | (go_at_call 16; refine (state_own (HSZ.out.below ?_) ⟨?_, ?_⟩).mono ?_; assumption; omega; omega; rintro e w7 ⟨v7, rfl, hv7, _, hb7⟩; obtain ⟨y0, y1, y2, y3, hx7⟩ := keep4B (g := w5.heap.size) (by assumption) (by assumption) (by assumption) (by assumption) (by assumption) hb7)
              | (go_at_call 15; refine (as_any hv7).mono ?_; rintro e w8 ⟨rfl, hb8⟩; have hv8 := hv7.below hb8; obtain ⟨z0, z1, z2, z3, hx8⟩ := keep4B (g := w5.heap.size) (by assumption) (by assumption) (by assumption) (by assumption) (by assumption) hb8)
              | (go_at_call 14; refine (same_any hv8 (HVZ.out.below ?_)).mono ?_; assumption; rintro e w9 ⟨rfl, hb9⟩; rw [sameB_self]; obtain ⟨t0, t1, t2, t3, hx9⟩ := keep4B (g := w5.heap.size) (by assumption) (by assumption) (by assumption) (by assumption) (by assumption) hb9))
          go_wp2_with fail
          go_ret
          exact ⟨rfl, HBZ.out.trans (hx9.mono HBZ.out.size)⟩
        · have hof := of_any HRR.out hc (by omega)
          rw [hN] at hof
          have HOF := Lib.hid hof
          clear hof hN HX4
          go_upto_region 16 with (go_at_call 13; refine HOF.out.mono ?_; rintro e w5 ⟨v5, rfl, hv5, _, hb5⟩; obtain ⟨A5, c5, A6, c6, rfl, hx5⟩ := hv5.out; have HB5 := Lib.hid (HB4.out.trans (hb5.mono HB4.out.size)); clear hv5 hb5 hx5)
          go_wp2_with fail
          go_ret
          exact ⟨rfl, HB5.out.alloc HB5.out.size _⟩

end Go.Proofs.YtdogmcpmlglkfaaDoor

namespace Go.Proofs.YtdogmcpmlglkfaaDoor
open Go.RowKit Go.Proofs.YtdogmcpmlglkfaaDoorW.PrintWords Go.Proofs.YtdogmcpmlglkfaaDoor.PRef

theorem Store11.move {w w' : World} {C g q p r m u : Nat} {F : Nat → Prop} {rm : Int} {recs : List ByteArray} (h : Store11 w C g q p r F m u rm recs) (hm : ∀ k, k < w.heap.size → (k = p ∨ k = r ∨ k = q ∨ F k) → w'.heap[k]? = w.heap[k]?) (hs : w.heap.size ≤ w'.heap.size) : Store11 w' C g q p r F m u rm recs := by
  obtain ⟨D, L, segs, S, h, h1, h2⟩ := h
  obtain ⟨ev, qu, hst, hF⟩ := h.st
  refine ⟨D, L, segs, S, ⟨⟨ev, qu, ⟨?_, ?_, ?_, hst.apart, hst.base⟩, hF.size hs⟩, ?_, ?_, h.inv, h.flat, h.tak, h.hq, h.hp, h.hr⟩, h1, h2⟩
  · exact (hm g hst.lt (.inr (.inr (.inr hF.g)))).trans hst.blk
  · exact hst.evs.move fun k hk => hm k (hst.evs.lt hk).2 (.inr (.inr (.inr (hF.ev k hk))))
  · exact hst.qus.move fun k hk => hm k (hst.qus.lt hk).2 (.inr (.inr (.inr (hF.qu k hk))))
  · exact h.log.move (hm q h.log.lt (.inr (.inr (.inl rfl))))
  · exact h.dsk.move (hm p h.dsk.lt (.inl rfl)) (hm r h.dsk.2.lt (.inr (.inl rfl)))

/-- What stands ahead of act j: the store, and the row of the records. -/
structure PInv (w0 w : World) (C g q p r : Nat) (F : Nat → Prop) (j u : Nat) (recs : List ByteArray) (rv : Value) : Prop where
  st : Store11 w C g q p r F j u 1048576 recs
  row : w.ownsRow w0.heap.size 9 1 rv recs.length (recs.map Value.string)
  sep : ∀ k, rv.ownBlock = some k → k ≠ p ∧ k ≠ r ∧ k ≠ q ∧ ¬ F k
  bel : Below w0.heap.size w0 w
  len : recs.length ≤ j
  use : u ≤ 1009 * j
  hp : w0.heap.size ≤ p
  hr : w0.heap.size ≤ r
  hq : w0.heap.size ≤ q
  hC : w0.heap.size ≤ C

theorem PInv.below {w0 w w' : World} {C g q p r j u : Nat} {F : Nat → Prop} {recs : List ByteArray} {rv : Value} (h : PInv w0 w C g q p r F j u recs rv) (hb : Below w.heap.size w w') : PInv w0 w' C g q p r F j u recs rv :=
  ⟨h.st.below hb, own_below h.row hb, h.sep, h.bel.trans (hb.mono h.bel.size), h.len, h.use, h.hp, h.hr, h.hq, h.hC⟩

theorem PInv.set4 {w0 w : World} {C g q p r j u : Nat} {F : Nat → Prop} {recs : List ByteArray} {rv : Value} (h : PInv w0 w C g q p r F j u recs rv) {b : Nat} (hb0 : w0.heap.size ≤ b) (hb1 : b ≠ p ∧ b ≠ r ∧ b ≠ q ∧ ¬ F b) (hb2 : rv.ownBlock ≠ some b) (x0 x1 x2 x3 : Value) :
    PInv w0 ((((w.setCell ⟨b, 0, none⟩ x0).setCell ⟨b, 1, none⟩ x1).setCell ⟨b, 2, none⟩ x2).setCell ⟨b, 3, none⟩ x3) C g q p r F j u recs rv := by
  have hm : ∀ k, k ≠ b → ((((w.setCell ⟨b, 0, none⟩ x0).setCell ⟨b, 1, none⟩ x1).setCell ⟨b, 2, none⟩ x2).setCell ⟨b, 3, none⟩ x3).heap[k]? = w.heap[k]? := fun k hk => by
    rw [Below.heap_setCell _ _ _ _ hk, Below.heap_setCell _ _ _ _ hk, Below.heap_setCell _ _ _ _ hk, Below.heap_setCell _ _ _ _ hk]
  refine ⟨h.st.move (fun k _ hk => hm k ?_) (by simp [World.setCell]), ownsRow_move h.row fun k hk => hm k (fun e => hb2 (e ▸ hk)), h.sep, ?_, h.len, h.use, h.hp, h.hr, h.hq, h.hC⟩
  · rintro rfl
    rcases hk with e | e | e | e
    · exact hb1.1 e
    · exact hb1.2.1 e
    · exact hb1.2.2.1 e
    · exact hb1.2.2.2 e
  · exact (((h.bel.setCell (p := ⟨b, 0, none⟩) hb0 _).setCell (p := ⟨b, 1, none⟩) hb0 _).setCell (p := ⟨b, 2, none⟩) hb0 _).setCell (p := ⟨b, 3, none⟩) hb0 _

/-- Behind an act that was refused. -/
theorem PInv.skip {w0 w w' : World} {C g q p r j u u' : Nat} {F F' : Nat → Prop} {recs : List ByteArray} {rv : Value} (h : PInv w0 w C g q p r F j u recs rv) (hu : u' ≤ u + 1009) (hs : Store11 w' C g q p r F' (j + 1) u' 1048576 recs) (hF : ∀ b, b < w.heap.size → F' b → F b) (hf : SFr F p r q w w') :
    PInv w0 w' C g q p r F' (j + 1) u' recs rv := by
  have hlt := fun k (hk : rv.ownBlock = some k) => (h.row.lt k hk).2
  refine ⟨hs, ownsRow_move h.row fun k hk => hf.block k (hlt k hk) ?_, fun k hk => ?_, hf.to_below h.st.rng h.bel h.hp h.hr h.hq h.hC, by have := h.len; omega, by have := h.use; omega, h.hp, h.hr, h.hq, h.hC⟩
  · have := h.sep k hk
    rintro (e | e | e | e)
    · exact this.1 e
    · exact this.2.1 e
    · exact this.2.2.1 e
    · exact this.2.2.2 e
  · have := h.sep k hk
    exact ⟨this.1, this.2.1, this.2.2.1, fun e => this.2.2.2 (hF k (hlt k hk) e)⟩

/-- Behind an act that was laid, ahead of the record's being put to the row. -/
theorem PInv.laid {w0 w w' : World} {C g q p r j u u' : Nat} {F F' : Nat → Prop} {recs : List ByteArray} {rec : ByteArray} {rv : Value} (h : PInv w0 w C g q p r F j u recs rv) (hs : Store11 w' C g q p r F' (j + 1) u' 1048576 (recs ++ [rec])) (hF : ∀ b, b < w.heap.size → F' b → F b) (hf : SFr F p r q w w') :
    w'.ownsRow w0.heap.size 9 1 rv recs.length (recs.map Value.string) ∧ (∀ k, rv.ownBlock = some k → k ≠ p ∧ k ≠ r ∧ k ≠ q ∧ ¬ F' k) ∧ Below w0.heap.size w0 w' := by
  have hlt := fun k (hk : rv.ownBlock = some k) => (h.row.lt k hk).2
  refine ⟨ownsRow_move h.row fun k hk => hf.block k (hlt k hk) ?_, fun k hk => ?_, hf.to_below h.st.rng h.bel h.hp h.hr h.hq h.hC⟩
  · have := h.sep k hk
    rintro (e | e | e | e)
    · exact this.1 e
    · exact this.2.1 e
    · exact this.2.2.1 e
    · exact this.2.2.2 e
  · have := h.sep k hk
    exact ⟨this.1, this.2.1, this.2.2.1, fun e => this.2.2.2 (hF k (hlt k hk) e)⟩

theorem PInv.push {w0 w w' w8 : World} {C g q p r j u u' : Nat} {F F' : Nat → Prop} {recs : List ByteArray} {rec : ByteArray} {rv v' : Value} {o : Obj} (h : PInv w0 w C g q p r F j u recs rv) (hu : u' ≤ u + 1009) (hs : Store11 w' C g q p r F' (j + 1) u' 1048576 (recs ++ [rec])) (hF : ∀ b, b < w.heap.size → F' b → F b) (hf : SFr F p r q w w')
    (hown : w8.ownsRow w0.heap.size 9 1 v' (recs ++ [rec]).length ((recs ++ [rec]).map Value.string)) (hg : (w'.alloc o).grownBy w8 rv.ownBlock) (hat : v'.ownBlock = rv.ownBlock ∨ v'.ownBlock = some (w'.alloc o).heap.size) : PInv w0 w8 C g q p r F' (j + 1) u' (recs ++ [rec]) v' := by
  obtain ⟨h1, h2, h3⟩ := h.laid hs hF hf
  have hr1 := hs.rng
  have hp1 : p < w'.heap.size ∧ r < w'.heap.size ∧ q < w'.heap.size := by
    obtain ⟨D, L, segs, S, h, _, _⟩ := hs
    exact ⟨h.dsk.lt, h.dsk.2.lt, h.log.lt⟩
  have hz : w'.heap.size ≤ w8.heap.size := Nat.le_trans (by rw [asz]; omega) hg.size
  refine ⟨hs.move (fun k hk hc => ?_) hz, hown, fun k hk => ?_, ?_, ?_, by have := h.use; omega, h.hp, h.hr, h.hq, h.hC⟩
  · refine (hg.block k (by rw [asz]; omega) (fun e => ?_)).trans (Below.heap_alloc _ _ _ hk)
    have := h2 k e.symm
    rcases hc with e | e | e | e
    · exact this.1 e
    · exact this.2.1 e
    · exact this.2.2.1 e
    · exact this.2.2.2 e
  · rcases hat with e | e
    · exact h2 k (e ▸ hk)
    · rw [e, asz] at hk
      simp only [Option.some.injEq] at hk
      exact ⟨by omega, by omega, by omega, fun hc => by have := (hr1 k hc).2; omega⟩
  · exact (h3.alloc h3.size _).grown hg (by rw [asz]; have := h3.size; omega) (fun k hk => (h1.lt k hk).1)
  · rw [List.length_append]
    have := h.len
    simp only [List.length_cons, List.length_nil]
    omega

theorem of_st {w w0 : World} {C g q p r j u : Nat} {F : Nat → Prop} {recs : List ByteArray} {A : Option Addr} {c : Nat} (h : PInv w0 w C g q p r F j u recs (.slice A recs.length c)) (hj : j ≤ 80) :
    Calls Tryd.prog 13 #[.slice A recs.length c] w fun e w' => ∃ v, e = .returned (.tuple #[v, .bool true]) ∧ SVal w' v (ofS recs) ∧ SFar w.heap.size v ∧ Below w.heap.size w w' := by
  have hl := h.len
  obtain ⟨A', c', e, hc, hr, _⟩ := own_read h.row (by omega)
  cases e
  have := of_any hr hc (by omega)
  obtain ⟨D, L, segs, S, hs, _, _⟩ := h.st
  rw [hs.tak] at this
  exact this

theorem does_snd (S : SSt) (k : Int) (t : ByteArray) (n : Int) : (doesF S k t n).2 = noK S k t n := by
  rw [doesF_eq]
  split
  · rename_i h; exact h.symm
  · rfl

theorem does_fst {S : SSt} {k : Int} {t : ByteArray} {n : Int} (h : noK S k t n = 0) : (doesF S k t n).1 = recK k t n := by
  rw [doesF_eq, if_pos h]

theorem act11_at {w : World} {A : Option Addr} {n : Nat} {l : List Act11} (h : Kd.C k48 w A n l) {i : Nat} (hi : i < l.length) : ∃ ad, A = some ad ∧
    w.cell? (ad.add (i * 3)) = some (.int .i64 l[i].f0) ∧ w.cell? ⟨(ad.add (i * 3)).block, (ad.add (i * 3)).off + 1, none⟩ = some (.string l[i].f1) ∧ w.cell? ⟨(ad.add (i * 3)).block, (ad.add (i * 3)).off + 2, none⟩ = some (.int .i64 l[i].f2) := by
  have hn := h.1
  obtain ⟨ad, e, h0, h1, h2⟩ := at_T48 h (i : Int) (by omega) (by omega)
  rw [rdA11_at hi] at h0 h1 h2
  simp only [Int.toNat_natCast] at h0 h1 h2
  exact ⟨ad, e, h0, h1, h2⟩

theorem keep7B {wc x y : World} {a0 a1 a2 a3 a4 a5 a6 : Addr} {u0 u1 u2 u3 u4 u5 u6 : Value} (h0 : x.cell? a0 = some u0) (h1 : x.cell? a1 = some u1) (h2 : x.cell? a2 = some u2) (h3 : x.cell? a3 = some u3) (h4 : x.cell? a4 = some u4) (h5 : x.cell? a5 = some u5) (h6 : x.cell? a6 = some u6) (h : Below wc.heap.size wc x) (hb : Below x.heap.size x y) :
    y.cell? a0 = some u0 ∧ y.cell? a1 = some u1 ∧ y.cell? a2 = some u2 ∧ y.cell? a3 = some u3 ∧ y.cell? a4 = some u4 ∧ y.cell? a5 = some u5 ∧ y.cell? a6 = some u6 ∧ Below wc.heap.size wc y :=
  ⟨(hb.cell (World.block_lt_of_cell? _ _ h0)).trans h0, (hb.cell (World.block_lt_of_cell? _ _ h1)).trans h1, (hb.cell (World.block_lt_of_cell? _ _ h2)).trans h2, (hb.cell (World.block_lt_of_cell? _ _ h3)).trans h3,
    (hb.cell (World.block_lt_of_cell? _ _ h4)).trans h4, (hb.cell (World.block_lt_of_cell? _ _ h5)).trans h5, (hb.cell (World.block_lt_of_cell? _ _ h6)).trans h6, h.trans (hb.mono h.size)⟩

end Go.Proofs.YtdogmcpmlglkfaaDoor

namespace Go.Proofs.YtdogmcpmlglkfaaDoor
open Go.RowKit Go.Proofs.YtdogmcpmlglkfaaDoorW.PrintWords Go.Proofs.YtdogmcpmlglkfaaDoor.PRef

theorem SVal.far {w w' : World} {v : Value} {S : SSt} {B : Nat} (h : SVal w v S) (hf : SFar B v) (hm : ∀ k, B ≤ k → k < w.heap.size → w'.heap[k]? = w.heap[k]?) : SVal w' v S := by
  obtain ⟨A, c, A2, c2, e, h1, h2, l1, l2, r1, r2⟩ := h
  obtain ⟨f1, f2⟩ := hf _ _ _ _ _ _ _ _ e
  have mv : ∀ {A : Option Addr} {xs : List ByteArray}, Kd.C Kd.string w A xs.length xs → (∀ ad, A = some ad → B ≤ ad.block) → Kd.C Kd.string w' A xs.length xs := by
    intro A xs r f
    obtain ⟨hl, hn, hc⟩ := r
    refine ⟨hl, hn, fun h0 => ?_⟩
    obtain ⟨ad, e, hc⟩ := hc h0
    refine ⟨ad, e, fun j q hj => ?_⟩
    obtain ⟨cs, h1, h2, h3⟩ := hc j q hj
    refine ⟨cs, h1, h2, fun i u hi => ?_⟩
    have hcell := h3 i u hi
    have hlt := World.block_lt_of_cell? _ _ hcell
    refine (World.cell?_of_block (hm _ ?_ hlt)).trans hcell
    rw [addr_block]
    exact f ad e
  exact ⟨A, c, A2, c2, e, h1, h2, l1, l2, mv r1 f1, mv r2 f2⟩

theorem own_new_ne {v v' : Value} {b n : Nat} (h : v'.ownBlock = v.ownBlock ∨ v'.ownBlock = some n) (hv : v.ownBlock ≠ some b) (hb : b < n) : v'.ownBlock ≠ some b := by
  rcases h with e | e
  · rw [e]; exact hv
  · rw [e]; simp only [ne_eq, Option.some.injEq]; omega

theorem SVal.bfr {w w' : World} {v : Value} {S : SSt} {B B2 p r : Nat} (h : SVal w v S) (hf : SFar B v) (hp : p < B) (hr : r < B) (hb : BFr B2 p r w w') (hB : w.heap.size ≤ B2) : SVal w' v S :=
  h.far hf fun k h1 h2 => hb.block k h2 (by rintro (e | e | e) <;> omega)

set_option maxHeartbeats 8000000 in
set_option maxRecDepth 100000 in
theorem splays_walk (A : Option Addr) (c : Nat) (l : List Act11) (w : World) (hc : l.length ≤ c) (hr : Kd.C k48 w A l.length l) :
    Calls Tryd.prog 4 #[.slice A l.length c] w fun e w' => e = .returned (.bool true) ∧ Below w.heap.size w w' := by
  obtain ⟨rg, hsm, hgr⟩ := great11_calls hr hc
  have HG := Lib.hid hgr
  have HR := Lib.hid hr
  clear hgr hr
  go_enter Tryd.func4, Tryd.ntmps4
  cases rg with
  | true =>
    go_wp2_with (first
      | (go_at_call 17; refine HG.out.mono ?_; rintro e w1 ⟨rfl, hd⟩; have HB1 := Lib.hid hd.below; clear hd)
      | (go_at_call 8; refine (awake11 _).mono ?_; rintro e w2 ⟨rfl, hb2⟩))
    go_ret
    exact ⟨rfl, HB1.out.trans (hb2.mono HB1.out.size)⟩
  | false =>
    obtain ⟨hs1, hs2⟩ := hsm rfl
    have HSM := Lib.hid hs2
    clear hs2 hsm
    go_wp2_with (first
      | (go_at_call 17; refine HG.out.mono ?_; rintro e w0 ⟨rfl, hd⟩; have HB0 := Lib.hid hd.below; clear hd)
      | (go_at_call 8; refine (awake11 _).mono ?_; rintro e w1 ⟨rfl, hb1⟩; have HB1 := Lib.hid (HB0.out.trans (hb1.mono HB0.out.size)); clear hb1)
      | (go_at_call 9; refine (new_ok 1048576 _ (by omega) (by omega)).mono ?_; rintro e w2 ⟨p, r, rfl, hd2, hp0, hr0, hb2⟩; have hp := Nat.le_trans HB1.out.size hp0; have hr := Nat.le_trans HB1.out.size hr0; have HD2 := Lib.hid hd2; have HB2 := Lib.hid (HB1.out.trans (hb2.mono HB1.out.size)); clear hd2 hb2 hp0 hr0)
      | (go_at_call 12; refine (open_new HD2.out (by omega) (by omega)).mono ?_; rintro e w3 ⟨C, g, q, F3, rfl, hq0, hC0, hs3, hf3⟩; have hq := Nat.le_trans HB2.out.size hq0; have hC := Nat.le_trans HB2.out.size hC0; have HS3 := Lib.hid hs3; have HB3 := Lib.hid (hf3.to_below HB2.out hp hr HB2.out.size); clear hs3 hf3 hq0 hC0))
    go_loopw [6, 7] (fun rv iv wr => ∃ (j u : Nat) (recs : List ByteArray) (F : Nat → Prop), iv = .int .i64 j ∧ j ≤ l.length ∧ PInv w wr C g q p r F j u recs rv) (fun _ iv _ => l.length - (intOf iv).toNat)
    case atStart => exact ⟨0, 0, [], F3, rfl, Nat.zero_le _, ⟨HS3.out, own_none _ _ _ _, (fun k hk => by cases hk), HB3.out, Nat.le_refl _, Nat.le_refl _, hp, hr, hq, hC⟩⟩
    case round =>
      obtain ⟨j, u, recs, F, rfl, hj, hinv⟩ := hrel
      have HI := Lib.hid hinv
      obtain ⟨Ar, cr, rfl, hcr, hrr, _⟩ := own_read hinv.row (by have := hinv.len; omega)
      have hrl := hinv.len
      clear HS3 HB3 HD2 HB2 HB1 HB0 hinv hrr
      have HOF := Lib.hid (of_st HI.out (by omega))
      obtain ⟨S, hS⟩ : ∃ S, S = ofS recs := ⟨_, rfl⟩
      rw [← hS] at HOF
      have HS := Lib.hid hS
      clear hS
      by_cases hlt : j < l.length
      · obtain ⟨ad, rfl, k0, k1, k2⟩ := act11_at (Kd.C_below HR.out HI.out.bel) hlt
        have hts := HSM.out l[j] (List.getElem_mem hlt)
        obtain ⟨⟨k, t, n⟩, hx⟩ : ∃ x, x = l[j] := ⟨_, rfl⟩
        rw [← hx] at k0 k1 k2 hts
        simp only at k0 k1 k2 hts
        clear hx
        have hgo : True := trivial
        go_upto_region 12 with (go_at_call 13; refine HOF.out.mono ?_; rintro e w5 ⟨v5, rfl, hv5, _, hb5⟩; obtain ⟨A5, c5, A6, c6, rfl, hx5⟩ := hv5.out; have HV5 := Lib.hid hv5; have HB5 := Lib.hid hb5; clear hv5 hb5 hx5)
        obtain ⟨wz, hwz⟩ : ∃ wz, wz = w5.alloc (.cells #[.string S.room, .slice A5 S.events.length c5, .int .i64 S.used, .slice A6 S.queue.length c6] 35) := ⟨_, rfl⟩
        have hbz : Below w5.heap.size w5 wz := by rw [hwz]; exact ba_size _ _ _
        have hblk : wz.heap[w5.heap.size]? = some (.cells #[.string S.room, .slice A5 S.events.length c5, .int .i64 S.used, .slice A6 S.queue.length c6] 35) := by rw [hwz]; exact heap_alloc_new _ _
        have hbr := HB5.out.trans (hbz.mono HB5.out.size)
        have HIZ := Lib.hid ((HI.out.below HB5.out).below hbz)
        have HVZ := Lib.hid (HV5.out.below hbz)
        obtain ⟨b, hb⟩ : ∃ b, b = w5.heap.size := ⟨_, rfl⟩
        rw [← hb] at hblk ⊢
        have hbF : ¬ F b := fun hc => by have := ((HI.out.below HB5.out).st.rng b hc).2; omega
        have hbp : b ≠ p ∧ b ≠ r ∧ b ≠ q := by
          obtain ⟨D, L, segs, S, h, _, _⟩ := (HI.out.below HB5.out).st
          have h1 := h.dsk.lt
          have h2 := h.dsk.2.lt
          have h3 := h.log.lt
          exact ⟨by omega, by omega, by omega⟩
        have hbr2 : (Value.slice Ar recs.length cr).ownBlock ≠ some b := fun e => by have := ((HI.out.below HB5.out).row.lt b e).2; omega
        have hb0 : w.heap.size ≤ b := by have := HI.out.bel.size; have := HB5.out.size; omega
        have HBF := Lib.hid (And.intro hbF (And.intro hbp (And.intro hbr2 hb0)))
        obtain ⟨d0, d1, d2, d3, _⟩ := box4f hblk
        have m0 := (hbr.cell (World.block_lt_of_cell? _ _ k0)).trans k0
        have m1 := (hbr.cell (World.block_lt_of_cell? _ _ k1)).trans k1
        have m2 := (hbr.cell (World.block_lt_of_cell? _ _ k2)).trans k2
        rw [← hwz]
        clear hwz hbz hbr k0 k1 k2 hbF hbp hbr2 hb0 hb
        have HBLK := Lib.hid hblk
        clear hblk
        have hX := does_snd S k t n
        have hR := does_fst (S := S) (k := k) (t := t) (n := n)
        have HDO := Lib.hid (fun (W : World) (h : SVal W (.agg #[.string S.room, .slice A5 S.events.length c5, .int .i64 S.used, .slice A6 S.queue.length c6]) S) => does_any k t n h (by omega))
        have HD11 := Lib.hid (fun (W : World) (h : Store11 W C g q p r F j u 1048576 recs) => do11_any k t n hts h (by omega) (by have := HI.out.use; omega) (by omega))
        rw [← HS.out] at HD11
        obtain ⟨⟨R, X⟩, hRX⟩ : ∃ Y, Y = doesF S k t n := ⟨_, rfl⟩
        rw [← hRX] at HDO hX hR
        simp only at HDO hX hR
        rw [← hX] at HD11 hR
        have HRK := Lib.hid hR
        clear hRX hX hR hts hgo
        have hbx := (Below.refl wz.heap.size wz).drew
        have x0 : wz.drew.cell? ⟨b, 0, none⟩ = some (.string S.room) := d0
        have x1 : wz.drew.cell? ⟨b, 1, none⟩ = some (.slice A5 S.events.length c5) := d1
        have x2 : wz.drew.cell? ⟨b, 2, none⟩ = some (.int .i64 S.used) := d2
        have x3 : wz.drew.cell? ⟨b, 3, none⟩ = some (.slice A6 S.queue.length c6) := d3
        have x4 : wz.drew.cell? (ad.add (j * 3)) = some (.int .i64 k) := m0
        have x5 : wz.drew.cell? ⟨(ad.add (j * 3)).block, (ad.add (j * 3)).off + 1, none⟩ = some (.string t) := m1
        have x6 : wz.drew.cell? ⟨(ad.add (j * 3)).block, (ad.add (j * 3)).off + 2, none⟩ = some (.int .i64 n) := m2
        go_region_held3 (fun x => x.cell? ⟨b, 0, none⟩ = some (.string S.room) ∧ x.cell? ⟨b, 1, none⟩ = some (.slice A5 S.events.length c5) ∧ x.cell? ⟨b, 2, none⟩ = some (.int .i64 S.used) ∧ x.cell? ⟨b, 3, none⟩ = some (.slice A6 S.queue.length c6) ∧ x.cell? (ad.add (j * 3)) = some (.int .i64 k) ∧ x.cell? ⟨(ad.add (j * 3)).block, (ad.add (j * 3)).off + 1, none⟩ = some (.string t) ∧ x.cell? ⟨(ad.add (j * 3)).block, (ad.add (j * 3)).off + 2, none⟩ = some (.int .i64 n) ∧ Below wz.heap.size wz x) (first | (refine ⟨?_, ?_, ?_, ?_, ?_, ?_, ?_, ?_⟩ <;> assumption) | go_keep)
          (first
            | (go_at_call 18; refine (HDO.out _ (HVZ.out.below ?_)).mono ?_; assumption; rintro e w6 ⟨rfl, hb6⟩; obtain ⟨y0, y1, y2, y3, y4, y5, y6, hx6⟩ := keep7B (a0 := ⟨b, 0, none⟩) (a1 := ⟨b, 1, none⟩) (a2 := ⟨b, 2, none⟩) (a3 := ⟨b, 3, none⟩) (a4 := ad.add (j * 3)) (a5 := ⟨(ad.add (j * 3)).block, (ad.add (j * 3)).off + 1, none⟩) (a6 := ⟨(ad.add (j * 3)).block, (ad.add (j * 3)).off + 2, none⟩) (by assumption) (by assumption) (by assumption) (by assumption) (by assumption) (by assumption) (by assumption) (by assumption) hb6))
        have HP6 := Lib.hid (HIZ.out.below hx6)
        have HBLK6 := Lib.hid ((hx6.block b (Array.getElem?_eq_some_iff.1 HBLK.out).1).trans HBLK.out)
        clear x0 x1 x2 x3 x4 x5 x6 y0 y1 y2 y3 hbx d0 d1 d2 d3 m0 m1 m2 hb6 hx6 HDO HIZ HBLK
        go_upto_if 79 with (go_at_call 19; refine (HD11.out _ HP6.out.st).mono ?_; rintro e w7 ⟨rfl, ⟨F7, u7, hu7, hs7, hF7⟩, hf7⟩; have HS7 := Lib.hid hs7; have HF7 := Lib.hid hF7; have HFR7 := Lib.hid hf7; clear hs7 hF7 hf7)
        have hb6s : b < w6.heap.size := (Array.getElem?_eq_some_iff.1 HBLK6.out).1
        have HBLK7 := Lib.hid ((HFR7.out.block b hb6s (by have := HBF.out; rintro (e | e | e | e); exact this.2.1.1 e; exact this.2.1.2.1 e; exact this.2.1.2.2 e; exact this.1 e)).trans HBLK6.out)
        have hF7b : ¬ F7 b := fun hc => HBF.out.1 (HF7.out b hb6s hc)
        have hb7s : b < w7.heap.size := (Array.getElem?_eq_some_iff.1 HBLK7.out).1
        clear y4 y5 y6
        go_cut [6] (fun rv8 wx => ∃ (F8 : Nat → Prop) (u8 : Nat) (recs8 : List ByteArray), PInv w wx C g q p r F8 (j + 1) u8 recs8 rv8 ∧ wx.heap[b]? = some (.cells #[.string S.room, .slice A5 S.events.length c5, .int .i64 S.used, .slice A6 S.queue.length c6] 35) ∧ ¬ F8 b ∧ rv8.ownBlock ≠ some b)
        case first =>
          by_cases hX0 : X = 0
          · have hb0 : (X == 0) = true := by rw [hX0]; rfl
            have hs := HS7.out
            rw [if_pos hX0, ← HRK.out hX0] at hs
            have HS8 := Lib.hid hs
            have HLD := Lib.hid (HP6.out.laid hs HF7.out HFR7.out)
            obtain ⟨i0, hii0, hz0, hz1, hz2⟩ := info_parts info_str
            rw [hb0]
            clear hs hX0 hb0
            go_wp2_with (at_builtin; refine wpList_append_strs _ rfl (.tmp 80) (.tmp 82) 22 rfl w.heap.size 9 i0 Tryd.underlying22 hii0 hz0 hz1 hz2 _ recs [R] rfl (HLD.out.1.alloc _) (some ⟨w7.heap.size, 0, none⟩) 1 rfl (one_str _ _ _) (by simp only [List.length_cons, List.length_nil]; omega) (by rw [asz]; have := HLD.out.2.2.size; omega) ?_; intro v' w8 hown8 hg8 hat8; have HP8 := Lib.hid (HP6.out.push hu7 HS8.out HF7.out HFR7.out hown8 hg8 hat8); have HBLK8 := Lib.hid (((hg8.block b (by rw [asz]; omega) (fun e => HBF.out.2.2.1 e.symm)).trans (Below.heap_alloc _ _ _ hb7s)).trans HBLK7.out); have hat9 : v'.ownBlock ≠ some b := own_new_ne hat8 HBF.out.2.2.1 (by rw [asz]; omega))
            go_meet
            case rel => exact ⟨F7, u7, recs ++ [R], HP8.out, HBLK8.out, hF7b, hat9⟩
          · have hb0 : (X == 0) = false := by rw [beq_eq_false_iff_ne]; exact hX0
            have hs := HS7.out
            rw [if_neg hX0] at hs
            rw [hb0]
            clear hb0
            go_wp2_with fail
            go_meet
            case rel => exact ⟨F7, u7, recs, HP6.out.skip hu7 hs HF7.out HFR7.out, HBLK7.out, hF7b, HBF.out.2.2.1⟩
        case rest =>
          obtain ⟨F8, u8, recs8, hp8, hblk8, hF8, hrv8⟩ := hcut
          have hr8 := hp8.len
          obtain ⟨A8, c8, rfl, hc8, hr8r, _⟩ := own_read hp8.row (by omega)
          have HOF8 := Lib.hid (of_st hp8 (by omega))
          have hb8 : b < wc.heap.size := (Array.getElem?_eq_some_iff.1 hblk8).1
          obtain ⟨S8, hS8⟩ : ∃ S8, S8 = ofS recs8 := ⟨_, rfl⟩
          have hl8 := ofS_len hp8.st
          rw [← hS8] at HOF8 hl8
          have HS8e := Lib.hid hS8
          have HP8 := Lib.hid hp8
          have HBLK8 := Lib.hid hblk8
          have HNB := Lib.hid (And.intro hF8 hrv8)
          clear hp8 hblk8 hS8 hF8 hrv8 hr8r HP6 HBLK6 HBLK7 HS7 HF7 HFR7 HD11 HRK hF7b hb7s hb6s
          go_upto_region 18 with (go_at_call 13; refine HOF8.out.mono ?_; rintro e w9 ⟨v9, rfl, hv9, hfar9, hb9⟩; obtain ⟨B5, e5, B6, e6, rfl, hx9⟩ := hv9.out; obtain ⟨d0, d1, d2, d3, df⟩ := box4f ((hb9.block b hb8).trans HBLK8.out); have df0 := df 0; have df1 := df 1; have df2 := df 2; have df3 := df 3; have HV9 := Lib.hid hv9; have HFAR9 := Lib.hid hfar9; have HB9 := Lib.hid hb9; have HBLK9 := Lib.hid ((hb9.block b hb8).trans HBLK8.out); have HP9 := Lib.hid (HP8.out.below hb9); clear hv9 hfar9 hb9 hx9 df)
          have hw0 : w.heap.size ≤ b := HBF.out.2.2.2
          have hbpq : b ≠ p ∧ b ≠ r ∧ b ≠ q ∧ ¬ F8 b := ⟨HBF.out.2.1.1, HBF.out.2.1.2.1, HBF.out.2.1.2.2, HNB.out.1⟩
          obtain ⟨wz, hwz⟩ : ∃ wz, wz = ((((w9.setCell ⟨b, 0, none⟩ (.string S8.room)).setCell ⟨b, 1, none⟩ (.slice B5 S8.events.length e5)).setCell ⟨b, 2, none⟩ (.int .i64 S8.used)).setCell ⟨b, 3, none⟩ (.slice B6 S8.queue.length e6)) := ⟨_, rfl⟩
          have HPZ := Lib.hid (show PInv w wz C g q p r F8 (j + 1) u8 recs8 (.slice A8 recs8.length c8) by rw [hwz]; exact HP9.out.set4 hw0 hbpq HNB.out.2 _ _ _ _)
          have HVZ := Lib.hid (show SVal wz (.agg #[.string S8.room, .slice B5 S8.events.length e5, .int .i64 S8.used, .slice B6 S8.queue.length e6]) S8 from HV9.out.far HFAR9.out (fun k h1 _ => by
            have hne : k ≠ b := by omega
            rw [hwz, Below.heap_setCell _ _ _ _ hne, Below.heap_setCell _ _ _ _ hne, Below.heap_setCell _ _ _ _ hne, Below.heap_setCell _ _ _ _ hne]))
          have hblkz : wz.heap[b]? = some (.cells #[.string S8.room, .slice B5 S8.events.length e5, .int .i64 S8.used, .slice B6 S8.queue.length e6] 35) := by rw [hwz]; exact setCell_row _ (setCell_row _ (setCell_row _ (setCell_row _ HBLK9.out)))
          rw [← hwz]
          clear hwz d0 d1 d2 d3 df0 df1 df2 df3 hbpq hw0
          obtain ⟨d0, d1, d2, d3, _⟩ := box4f hblkz
          clear hblkz
          have hbx := (Below.refl wz.heap.size wz).drew
          have x0 : wz.drew.cell? ⟨b, 0, none⟩ = some (.string S8.room) := d0
          have x1 : wz.drew.cell? ⟨b, 1, none⟩ = some (.slice B5 S8.events.length e5) := d1
          have x2 : wz.drew.cell? ⟨b, 2, none⟩ = some (.int .i64 S8.used) := d2
          have x3 : wz.drew.cell? ⟨b, 3, none⟩ = some (.slice B6 S8.queue.length e6) := d3
          have HSZ := Lib.hid (show StRep wz C g q S8 by rw [HS8e.out]; exact HPZ.out.st.st)
          go_region_held3 (fun x => x.cell? ⟨b, 0, none⟩ = some (.string S8.room) ∧ x.cell? ⟨b, 1, none⟩ = some (.slice B5 S8.events.length e5) ∧ x.cell? ⟨b, 2, none⟩ = some (.int .i64 S8.used) ∧ x.cell? ⟨b, 3, none⟩ = some (.slice B6 S8.queue.length e6) ∧ Below wz.heap.size wz x) (first | (refine ⟨?_, ?_, ?_, ?_, ?_⟩ <;> assumption) | go_keep)
            (first
              | (go_at_call 16; refine (state_own (HSZ.out.below ?_) ⟨?_, ?_⟩).mono ?_; assumption; omega; omega; rintro e w7 ⟨v7, rfl, hv7, _, hb7⟩; obtain ⟨y0, y1, y2, y3, hx7⟩ := keep4B (g := b) (by assumption) (by assumption) (by assumption) (by assumption) (by assumption) hb7)
              | (go_at_call 15; refine (as_any hv7).mono ?_; rintro e w8 ⟨rfl, hb8⟩; have hv8 := hv7.below hb8; obtain ⟨z0, z1, z2, z3, hx8⟩ := keep4B (g := b) (by assumption) (by assumption) (by assumption) (by assumption) (by assumption) hb8)
              | (go_at_call 14; refine (same_any hv8 (HVZ.out.below ?_)).mono ?_; assumption; rintro e w10 ⟨rfl, hb10⟩; rw [sameB_self]; obtain ⟨t0, t1, t2, t3, hx10⟩ := keep4B (g := b) (by assumption) (by assumption) (by assumption) (by assumption) (by assumption) hb10))
          go_wp2_with fail
          go_roundw
          case rel => exact ⟨j + 1, u8, recs8, F8, by go_num, by omega, HPZ.out.below hx10⟩
          case measure => simp [intOf]; omega
      · obtain rfl : j = l.length := by omega
        have hl8 := ofS_len HI.out.st
        rw [← HS.out] at hl8
        have HOA := Lib.hid (fun (W : World) (h : Store11 W C g q p r F l.length u 1048576 recs) => open_again h (by omega))
        rw [← HS.out] at HOA
        go_upto_region 21 with (go_at_call 13; refine HOF.out.mono ?_; rintro e w5 ⟨v5, rfl, hv5, hfar5, hb5⟩; obtain ⟨A5, c5, A6, c6, rfl, hx5⟩ := hv5.out; have HV5 := Lib.hid hv5; have HFAR5 := Lib.hid hfar5; have HB5 := Lib.hid hb5; clear hv5 hb5 hx5 hfar5)
        obtain ⟨wz, hwz⟩ : ∃ wz, wz = w5.alloc (.cells #[.string S.room, .slice A5 S.events.length c5, .int .i64 S.used, .slice A6 S.queue.length c6] 35) := ⟨_, rfl⟩
        have hbz : Below w5.heap.size w5 wz := by rw [hwz]; exact ba_size _ _ _
        have hblk : wz.heap[w5.heap.size]? = some (.cells #[.string S.room, .slice A5 S.events.length c5, .int .i64 S.used, .slice A6 S.queue.length c6] 35) := by rw [hwz]; exact heap_alloc_new _ _
        have hpr : p < wr.heap.size ∧ r < wr.heap.size := by
          obtain ⟨D, L, segs, S, h, _, _⟩ := HI.out.st
          exact ⟨h.dsk.lt, h.dsk.2.lt⟩
        have hz5 := HB5.out.size
        have HIZ := Lib.hid ((HI.out.below HB5.out).below hbz)
        have HVZ := Lib.hid (HV5.out.below hbz)
        have hbs : w5.heap.size < wz.heap.size := (Array.getElem?_eq_some_iff.1 hblk).1
        have HBLK := Lib.hid hblk
        rw [← hwz]
        clear hwz hbz hblk
        go_upto_region 22 with (go_at_call 12; refine (HOA.out _ HIZ.out.st).mono ?_; rintro e w6 ⟨C6, g6, q6, rfl, hs6, hf6⟩; have HS6 := Lib.hid hs6; have HF6 := Lib.hid hf6; clear hs6 hf6)
        have HB6 := Lib.hid (HF6.out.to_below HIZ.out.bel HIZ.out.hp HIZ.out.hr HIZ.out.bel.size)
        have HV6 := Lib.hid (HVZ.out.bfr HFAR5.out hpr.1 hpr.2 HF6.out (Nat.le_refl _))
        obtain ⟨d0, d1, d2, d3, _⟩ := box4f ((HF6.out.block w5.heap.size hbs (by rintro (e | e | e) <;> omega)).trans HBLK.out)
        have hbx := (Below.refl w6.heap.size w6).drew
        have x0 : w6.drew.cell? ⟨w5.heap.size, 0, none⟩ = some (.string S.room) := d0
        have x1 : w6.drew.cell? ⟨w5.heap.size, 1, none⟩ = some (.slice A5 S.events.length c5) := d1
        have x2 : w6.drew.cell? ⟨w5.heap.size, 2, none⟩ = some (.int .i64 S.used) := d2
        have x3 : w6.drew.cell? ⟨w5.heap.size, 3, none⟩ = some (.slice A6 S.queue.length c6) := d3
        go_region_held3 (fun x => x.cell? ⟨w5.heap.size, 0, none⟩ = some (.string S.room) ∧ x.cell? ⟨w5.heap.size, 1, none⟩ = some (.slice A5 S.events.length c5) ∧ x.cell? ⟨w5.heap.size, 2, none⟩ = some (.int .i64 S.used) ∧ x.cell? ⟨w5.heap.size, 3, none⟩ = some (.slice A6 S.queue.length c6) ∧ Below w6.heap.size w6 x) (first | (refine ⟨?_, ?_, ?_, ?_, ?_⟩ <;> assumption) | go_keep)
          (first
            | (go_at_call 16; refine (state_own (HS6.out.below ?_) ⟨?_, ?_⟩).mono ?_; assumption; omega; omega; rintro e w7 ⟨v7, rfl, hv7, _, hb7⟩; obtain ⟨y0, y1, y2, y3, hx7⟩ := keep4B (g := w5.heap.size) (by assumption) (by assumption) (by assumption) (by assumption) (by assumption) hb7)
            | (go_at_call 15; refine (as_any hv7).mono ?_; rintro e w8 ⟨rfl, hb8⟩; have hv8 := hv7.below hb8; obtain ⟨z0, z1, z2, z3, hx8⟩ := keep4B (g := w5.heap.size) (by assumption) (by assumption) (by assumption) (by assumption) (by assumption) hb8)
            | (go_at_call 14; refine (same_any hv8 (HV6.out.below ?_)).mono ?_; assumption; rintro e w10 ⟨rfl, hb10⟩; rw [sameB_self]; obtain ⟨t0, t1, t2, t3, hx10⟩ := keep4B (g := w5.heap.size) (by assumption) (by assumption) (by assumption) (by assumption) (by assumption) hb10))
        go_wp2_with fail
        go_ret
        exact ⟨rfl, HB6.out.trans (hx10.mono HB6.out.size)⟩

end Go.Proofs.YtdogmcpmlglkfaaDoor

namespace Go.Proofs.YtdogmcpmlglkfaaDoor
open Go.RowKit Go.Proofs.YtdogmcpmlglkfaaDoorW.PrintWords

theorem extract_app (a b : ByteArray) (k : Nat) (h : a.size ≤ k) : (a ++ b).extract 0 k = a ++ b.extract 0 (k - a.size) := by
  apply WideShapes.bytes_inj
  rw [show a.size = a.data.size from rfl] at h ⊢
  simp
  exact List.take_of_length_le (by rw [Array.length_toList]; exact h)

theorem extract_size0 (b : ByteArray) (k : Nat) (h : k ≤ b.size) : (b.extract 0 k).size = k := by rw [ByteArray.size_extract]; omega

theorem extract_all (b : ByteArray) : b.extract 0 b.size = b := by
  have := extract_left b ⟨#[]⟩
  rwa [ba_nil] at this

theorem tk_bad (s : ByteArray) (n : Int) : tk s true n = (⟨#[]⟩, s, true) := by unfold tk; rw [if_pos (.inl rfl)]
theorem tk_short (s : ByteArray) (n : Int) (h : (s.size : Int) < n) : tk s false n = (⟨#[]⟩, s, true) := by unfold tk; rw [if_pos (.inr (.inr h))]

/-- A beginning of a sealed record is none. -/
theorem openF_part (s : ByteArray) (k : Nat) (hs : s.size ≤ 65535) (hk : k < 8 + s.size) : (openF ((sld s).extract 0 k)).2.2 = false := by
  have e : sld s = be4 s.size ++ (be4 (crcS s) ++ s) := by
    unfold sld
    rw [ByteArray.append_assoc]
  have s1 := be4_size (s.size : Int)
  have s2 := be4_size (crcS s)
  have n1 : num (be4 (s.size : Int)) = s.size := num_be4 _ (by omega) (by omega)
  by_cases h4 : k < 4
  · have hz : ((sld s).extract 0 k).size < 4 := by rw [ByteArray.size_extract]; omega
    unfold openF
    rw [tk_short _ 4 (by omega)]
    simp only [tk_bad]
    split
    · rfl
    · rfl
  · rw [e, extract_app _ _ k (by omega), s1]
    obtain ⟨X, hX⟩ : ∃ X, X = (be4 (crcS s) ++ s).extract 0 (k - 4) := ⟨_, rfl⟩
    rw [← hX]
    have t1 : tk (be4 s.size ++ X) false 4 = (be4 s.size, X, false) := tk_append _ _ 4 (by rw [s1]; rfl)
    unfold openF
    rw [t1]
    simp only [n1]
    rw [if_neg (by omega)]
    by_cases h8 : k < 8
    · have hz : X.size < 4 := by rw [hX, ByteArray.size_extract]; omega
      rw [tk_short X 4 (by omega)]
      simp only [tk_bad]
      rfl
    · rw [extract_app _ _ (k - 4) (by omega), s2] at hX
      obtain ⟨Y, hY⟩ : ∃ Y, Y = s.extract 0 (k - 4 - 4) := ⟨_, rfl⟩
      rw [← hY] at hX
      have t2 : tk X false 4 = (be4 (crcS s), Y, false) := by rw [hX]; exact tk_append _ _ 4 (by rw [s2]; rfl)
      have hz : (Y.size : Int) < (s.size : Int) := by rw [hY, ByteArray.size_extract]; omega
      rw [t2]
      simp only
      rw [tk_short Y _ hz]
      rfl

theorem tail_part (s : ByteArray) (k : Nat) (hs : s.size ≤ 65535) (hk : k < 8 + s.size) : Tail ((sld s).extract 0 k) := .inr (openF_part s k hs hk)

/-! ### a crash -/
theorem dget_map {fs : List DFile} {g : DFile → DFile} (hg : ∀ f, (g f).name = f.name) (nm : ByteArray) : dget (fs.map g) nm = (dget fs nm).map g := by
  unfold dget
  induction fs with
  | nil => rfl
  | cons f fs ih =>
    by_cases h : f.name = nm
    · simp [hg, h]
    · simp only [List.map_cons, List.find?_cons, hg, h, decide_false]
      exact ih

/-- What a crash leaves of a file. -/
theorem crash_get (D : DSt) (keep : List Int) (ns : List ByteArray) (nm : ByteArray) : ∃ g : DFile → DFile, (∀ f, f.safe ≤ f.data.size → ∃ k, f.safe ≤ k ∧ k ≤ f.data.size ∧ (g f).data = f.data.extract 0 k) ∧ dget (crashS D keep ns).fs nm = (dget D.fs nm).map g := by
  refine ⟨fun f => if nameIx ns f.name < ns.length then crash1 keep (nameIx ns f.name) f else f, fun f hf => ?_, ?_⟩
  · by_cases h : nameIx ns f.name < ns.length
    · obtain ⟨h1, h2⟩ := crashN_le keep (nameIx ns f.name) f hf
      exact ⟨crashN keep (nameIx ns f.name) f, h1, h2, by simp only [h, if_true]; rfl⟩
    · exact ⟨f.data.size, hf, Nat.le_refl _, by simp only [h, if_false]; exact (extract_all _).symm⟩
  · exact dget_map (fun f => by by_cases h : nameIx ns f.name < ns.length <;> simp [h, crash1]) nm

/-- Behind a crash the segments hold the records, and behind the last ones a beginning of the tail. -/
theorem crash_datas {D : DSt} {segs : List (List ByteArray)} {tl : ByteArray} (h : Files D segs tl) (keep : List Int) (ns : List ByteArray) (hk : segs.length ≤ 90) : ∃ k, k ≤ tl.size ∧ Datas room (crashS D keep ns) segs (tl.extract 0 k) := by
  have part : ∀ n, n < 100 → ∀ rs, segs[n]? = some rs → ∃ k, k ≤ (if n + 1 = segs.length then tl else ⟨#[]⟩ : ByteArray).size ∧ (dget (crashS D keep ns).fs (seg room n)).map (·.data) = some (cat rs ++ (if n + 1 = segs.length then tl else ⟨#[]⟩ : ByteArray).extract 0 k) := by
    intro n hn rs hrs
    obtain ⟨g, hg, he⟩ := crash_get D keep ns (seg room n)
    obtain ⟨k, k1, k2, k3⟩ := hg ⟨seg room n, cat rs ++ (if n + 1 = segs.length then tl else ⟨#[]⟩), (cat rs).size⟩ (by simp only [ByteArray.size_append]; omega)
    simp only [ByteArray.size_append] at k1 k2
    refine ⟨k - (cat rs).size, by omega, ?_⟩
    rw [he, h n hn, hrs]
    simp only [Option.map_some]
    rw [k3, extract_app _ _ k k1]
  have none : ∀ n, n < 100 → segs[n]? = Option.none → (dget (crashS D keep ns).fs (seg room n)).map (·.data) = Option.none := by
    intro n hn hs
    obtain ⟨g, _, he⟩ := crash_get D keep ns (seg room n)
    rw [he, h n hn, hs]
    rfl
  have hnil : ∀ k, (⟨#[]⟩ : ByteArray).extract 0 k = ⟨#[]⟩ := fun k => by apply WideShapes.bytes_inj; simp
  by_cases h0 : segs.length = 0
  · refine ⟨0, Nat.zero_le _, fun n hn => ?_⟩
    rw [none n hn (List.getElem?_eq_none (by omega)), List.getElem?_eq_none (by omega)]
    rfl
  · obtain ⟨rl, hrl⟩ : ∃ rl, segs[segs.length - 1]? = some rl := ⟨_, List.getElem?_eq_getElem (by omega)⟩
    obtain ⟨k, k1, k2⟩ := part (segs.length - 1) (by omega) rl hrl
    rw [if_pos (by omega)] at k1 k2
    refine ⟨k, k1, fun n hn => ?_⟩
    cases hs : segs[n]? with
    | none => rw [none n hn hs]; rfl
    | some rs =>
      by_cases hl : n + 1 = segs.length
      · obtain rfl : n = segs.length - 1 := by omega
        rw [hs] at hrl
        cases hrl
        rw [k2, Option.map_some, if_pos hl]
      · obtain ⟨k', _, k2'⟩ := part n hn rs hs
        rw [if_neg hl] at k2'
        rw [k2', Option.map_some, if_neg hl, hnil]

/-- A tail that is a whole record is one of the records. -/
theorem datas_whole {D : DSt} {front : List (List ByteArray)} {rs : List ByteArray} {rec : ByteArray} (h : Datas room D (front ++ [rs]) (sld rec)) : Datas room D (front ++ [rs ++ [rec]]) ⟨#[]⟩ := fun n hn => by
  rw [h n hn]
  by_cases hl : n < front.length
  · rw [List.getElem?_append_left hl, List.getElem?_append_left hl]
    cases front[n]? with
    | none => rfl
    | some x =>
      simp only [Option.map_some, List.length_append, List.length_cons, List.length_nil]
      rw [if_neg (by omega), if_neg (by omega)]
  · rw [List.getElem?_append_right (by omega), List.getElem?_append_right (by omega)]
    by_cases he : n = front.length
    · subst he
      simp only [Nat.sub_self, List.getElem?_cons_zero, Option.map_some, List.length_append, List.length_cons, List.length_nil, Nat.zero_add, if_true]
      rw [cat_snoc, ba_nil]
    · rw [List.getElem?_eq_none (by simp; omega), List.getElem?_eq_none (by simp; omega)]
      rfl

/-- What is found behind a crash of a log that stood. -/
theorem crash_alive {m u : Nat} {D : DSt} {L : LSt} {segs : List (List ByteArray)} (h : LInv m u D L segs) (hm : m ≤ 80) (keep : List Int) (ns : List ByteArray) : Datas room (crashS D keep ns) segs ⟨#[]⟩ := by
  obtain ⟨k, _, h2⟩ := crash_datas h.files keep ns (by have := h.lens; omega)
  have hnil : (⟨#[]⟩ : ByteArray).extract 0 k = ⟨#[]⟩ := by apply WideShapes.bytes_inj; simp
  rwa [hnil] at h2

/-- What is found behind a crash of a log whose disk went off: the record under way is not there, or whole. -/
theorem crash_dead {m : Nat} {D : DSt} {segs : List (List ByteArray)} {rec : ByteArray} (h : LOff m D segs rec) (hk : segs.length ≤ 80) (hr : rec.size ≤ 65535) (keep : List Int) (ns : List ByteArray) :
    ∃ segs2 tl, Datas room (crashS D keep ns) segs2 tl ∧ Tail tl ∧ segs2.length ≤ 90 ∧ (∀ rs ∈ segs2, ∀ r ∈ rs, r.size ≤ 65535) ∧ (segs2.flatten = segs.flatten ∨ segs2.flatten = segs.flatten ++ [rec]) := by
  obtain ⟨segs2, tl, e1, e2, e3, e4, e5⟩ := h.files
  obtain ⟨k, k1, k2⟩ := crash_datas e4 keep ns (by omega)
  have small : ∀ rs ∈ segs2, ∀ r ∈ rs, r.size ≤ 65535 := e3
  rcases e5 with rfl | rfl
  · have hnil : (⟨#[]⟩ : ByteArray).extract 0 k = ⟨#[]⟩ := by apply WideShapes.bytes_inj; simp
    rw [hnil] at k2
    exact ⟨segs2, ⟨#[]⟩, k2, .inl rfl, by omega, small, .inl e1⟩
  · rw [sld_size] at k1
    by_cases hlt : k < 8 + rec.size
    · exact ⟨segs2, _, k2, tail_part rec k hr hlt, by omega, small, .inl e1⟩
    · have hall : (sld rec).extract 0 k = sld rec := by
        have : k = (sld rec).size := by rw [sld_size]; omega
        rw [this, extract_all]
      rw [hall] at k2
      by_cases h0 : segs2 = []
      · subst h0
        refine ⟨[], ⟨#[]⟩, fun n hn => ?_, .inl rfl, Nat.zero_le _, (fun _ h => by cases h), .inl e1⟩
        rw [k2 n hn]
        rfl
      · obtain ⟨front, rs, rfl⟩ : ∃ front rs, segs2 = front ++ [rs] := ⟨_, _, (List.dropLast_concat_getLast h0).symm⟩
        refine ⟨front ++ [rs ++ [rec]], ⟨#[]⟩, datas_whole k2, .inl rfl, by simp at e2 ⊢; omega, fun x hx r hxr => ?_, .inr ?_⟩
        · rcases List.mem_append.1 hx with h1 | h1
          · exact small x (List.mem_append_left _ h1) r hxr
          · simp only [List.mem_singleton] at h1
            subst h1
            rcases List.mem_append.1 hxr with h2 | h2
            · exact small rs (by simp) r h2
            · simp only [List.mem_singleton] at h2
              rw [h2]; exact hr
        · rw [← e1]
          simp

end Go.Proofs.YtdogmcpmlglkfaaDoor

namespace Go.Proofs.YtdogmcpmlglkfaaDoor
open Go.RowKit Go.Proofs.YtdogmcpmlglkfaaDoorW.PrintWords Go.Proofs.YtdogmcpmlglkfaaDoor.PRef

/-- A store whose disk may be armed. -/
def StoreA (w : World) (C g q p r : Nat) (F : Nat → Prop) (m u : Nat) (rm : Int) (recs : List ByteArray) : Prop := ∃ D L segs S, St11 w C g q p r F m u D L segs S recs ∧ D.room = rm

/-- A store whose disk went off when rec was under way. -/
def StoreD (w : World) (C g q p r : Nat) (F : Nat → Prop) (m : Nat) (recs : List ByteArray) (rec : ByteArray) : Prop :=
  ∃ D L segs, StRepF w C g q (ofS recs) F ∧ LogRep w q p L ∧ DRep w p r D ∧ LOff m D segs rec ∧ segs.length ≤ m ∧ segs.flatten = recs ∧ q < C ∧ p < C ∧ r < C

theorem Store11.armed {w : World} {C g q p r m u : Nat} {F : Nat → Prop} {rm : Int} {recs : List ByteArray} (h : Store11 w C g q p r F m u rm recs) : StoreA w C g q p r F m u rm recs := by
  obtain ⟨D, L, segs, S, h, _, h2⟩ := h
  exact ⟨D, L, segs, S, h, h2⟩

theorem StoreA.below {w w' : World} {C g q p r m u : Nat} {F : Nat → Prop} {rm : Int} {recs : List ByteArray} (h : StoreA w C g q p r F m u rm recs) (hb : Below w.heap.size w w') : StoreA w' C g q p r F m u rm recs := by
  obtain ⟨D, L, segs, S, h, h2⟩ := h
  exact ⟨D, L, segs, S, h.below hb, h2⟩

theorem StoreA.rng {w : World} {C g q p r m u : Nat} {F : Nat → Prop} {rm : Int} {recs : List ByteArray} (h : StoreA w C g q p r F m u rm recs) : ∀ b, F b → C ≤ b ∧ b < w.heap.size := by
  obtain ⟨D, L, segs, S, h, _⟩ := h
  exact h.st.rng

theorem StoreA.lts {w : World} {C g q p r m u : Nat} {F : Nat → Prop} {rm : Int} {recs : List ByteArray} (h : StoreA w C g q p r F m u rm recs) : p < w.heap.size ∧ r < w.heap.size ∧ q < w.heap.size := by
  obtain ⟨D, L, segs, S, h, _⟩ := h
  exact ⟨h.dsk.lt, h.dsk.2.lt, h.log.lt⟩

theorem StoreD.below {w w' : World} {C g q p r m : Nat} {F : Nat → Prop} {recs : List ByteArray} {rec : ByteArray} (h : StoreD w C g q p r F m recs rec) (hb : Below w.heap.size w w') : StoreD w' C g q p r F m recs rec := by
  obtain ⟨D, L, segs, h1, h2, h3, h4, h5, h6, h7, h8, h9⟩ := h
  exact ⟨D, L, segs, h1.below hb, h2.below hb, h3.below hb, h4, h5, h6, h7, h8, h9⟩

theorem ofS_lenA {w : World} {C g q p r m u : Nat} {F : Nat → Prop} {rm : Int} {recs : List ByteArray} (h : StoreA w C g q p r F m u rm recs) : (ofS recs).events.length ≤ m ∧ (ofS recs).queue.length ≤ m := by
  obtain ⟨D, L, segs, S, h, _⟩ := h
  rw [← h.ofS]
  exact h.lens

theorem StoreA.tak {w : World} {C g q p r m u : Nat} {F : Nat → Prop} {rm : Int} {recs : List ByteArray} (h : StoreA w C g q p r F m u rm recs) : takesL s0 recs = some (ofS recs) := by
  obtain ⟨D, L, segs, S, h, _⟩ := h
  rw [← h.ofS]
  exact h.tak

/-- The disk, armed. -/
theorem arm11 {w : World} {C g q p r m u : Nat} {F : Nat → Prop} {rm : Int} {recs : List ByteArray} (n : Int) (h : StoreA w C g q p r F m u rm recs) (hn : 0 ≤ n ∧ n ≤ 1000000) :
    Calls Tryd.prog 20 #[.pointer (some ⟨p, 0, none⟩), .int .i64 n] w fun e w' => e = .returned (.tuple #[]) ∧ StoreA w' C g q p r F m u rm recs ∧ DFr p r w w' := by
  obtain ⟨D, L, segs, S, h, rfl⟩ := h
  refine (arm_any n h.dsk).mono ?_
  rintro e w' ⟨h1, h2, h3⟩
  have i := h.inv
  obtain ⟨ev, qu, hst, hF⟩ := h.st
  have hk : ∀ k, C ≤ k → k < w.heap.size → w'.heap[k]? = w.heap[k]? := fun k h1 h2 => h3.block k h2 (by have := h.hp; have := h.hr; rintro (e | e) <;> omega)
  refine ⟨h1, ⟨_, L, segs, S, ⟨⟨ev, qu, hst.move hk, hF.size h3.size⟩, h.log.dfr h.dsk h3, h2, ?_, h.flat, h.tak, h.hq, h.hp, h.hr⟩, rfl⟩, h3⟩
  have o := i.ok
  exact ⟨i.nm, i.last, i.size, i.size0, i.broken, i.files, i.use, i.off, ⟨by show 0 ≤ max n 0; omega, by show max n 0 ≤ _; omega, o.room, o.use, o.file, o.len, o.nodup⟩, i.small, i.len, i.lens, i.cnt⟩

/-- What was laid, or not. -/
theorem St11.layA {w w' : World} {e : Ending} {C g q p r m u : Nat} {F : Nat → Prop} {D : DSt} {L : LSt} {segs : List (List ByteArray)} {S : SSt} {recs : List ByteArray} {no : Int} {rec : ByteArray} (h : St11 w C g q p r F m u D L segs S recs) (hm : m ≤ 80)
    (hp : LayPost C g q p r F no S L D rec w e w') (hg : no = 0 → (takesF S rec).2 = true ∧ rec.size ≤ 65535 ∧ ((u + (8 + rec.size) : Nat) : Int) ≤ D.room) :
    SFr F p r q w w' ∧ ∃ F', (∀ b, b < w.heap.size → F' b → F b) ∧
      ((e = .returned (.int .i64 no) ∧ StoreA w' C g q p r F' (m + 1) (if no = 0 then u + (8 + rec.size) else u) D.room (if no = 0 then recs ++ [rec] else recs)) ∨
       (no = 0 ∧ e = .returned (.int .i64 6) ∧ StoreD w' C g q p r F' (m + 1) recs rec)) := by
  obtain ⟨p1, ⟨F', p2, p6⟩, p3, p4, p5⟩ := hp
  refine ⟨p5, F', p6, ?_⟩
  by_cases hn : no = 0
  · subst hn
    obtain ⟨g1, g2, g3⟩ := hg rfl
    rcases logApp_of h.inv hm g2 g3 with ⟨L', D', segs', e1, e2, e3, e4, e5⟩ | ⟨hc, L', D', e1, _, e3⟩
    · rw [layF_ok S e1] at p1 p2 p3 p4
      refine .inl ⟨p1, ⟨D', L', segs', _, ⟨p2, p3, p4, ?_, ?_, ?_, h.hq, h.hp, h.hr⟩, e5⟩⟩
      · rw [if_pos rfl]; exact e2
      · rw [if_pos rfl, e3, h.flat]
      · rw [if_pos rfl, takesL_append, h.tak]
        show takesL S [rec] = _
        rw [takesL, if_pos g1]
        rfl
    · rw [layF_bad S e1 (by decide)] at p1 p2 p3 p4
      rw [h.ofS] at p2
      exact .inr ⟨rfl, p1, ⟨D', L', segs, p2, p3, p4, e3, by have := h.inv.lens; omega, h.flat, h.hq, h.hp, h.hr⟩⟩
  · rw [layF_no S L D rec hn] at p1 p2 p3 p4
    refine .inl ⟨p1, ⟨D, L, segs, S, ⟨p2, p3, p4, ?_, ?_, ?_, h.hq, h.hp, h.hr⟩, rfl⟩⟩
    · rw [if_neg hn]
      have i := h.inv
      exact ⟨i.nm, i.last, i.size, i.size0, i.broken, i.files, i.use, i.off, i.ok.mono (by omega), i.small, by have := i.len; omega, by have := i.lens; omega, by have := i.cnt; omega⟩
    · rw [if_neg hn]; exact h.flat
    · rw [if_neg hn]; exact h.tak

theorem do11A {w : World} {C g q p r m u : Nat} {F : Nat → Prop} {rm : Int} {recs : List ByteArray} (k : Int) (t : ByteArray) (n : Int) (ht : t.size ≤ 1000 ∨ (65534 < t.size ∧ t.size ≤ 100000)) (h : StoreA w C g q p r F m u rm recs) (hm : m ≤ 80) (hu : ((u + 1009 : Nat) : Int) ≤ rm) (hrm : rm ≤ 4194304) :
    Calls Tryd.prog 19 #[.pointer (some ⟨g, 0, none⟩), .agg #[.int .i64 k, .string t, .int .i64 n]] w fun e w' => SFr F p r q w w' ∧ ∃ F' x, e = .returned (.int .i64 x) ∧ (∀ b, b < w.heap.size → F' b → F b) ∧
      ((x = noK (ofS recs) k t n ∧ ∃ u', u' ≤ u + 1009 ∧ StoreA w' C g q p r F' (m + 1) u' rm (if noK (ofS recs) k t n = 0 then recs ++ [recK k t n] else recs)) ∨
       (noK (ofS recs) k t n = 0 ∧ x = 6 ∧ StoreD w' C g q p r F' (m + 1) recs (recK k t n))) := by
  obtain ⟨D, L, segs, S, h, rfl⟩ := h
  rw [← h.ofS]
  have hl := h.lens
  refine (do11_lay k t n (by omega) h.st h.log h.dsk (h.inv.lok hm (by omega)) h.inv.ok h.hq h.hp h.hr ⟨by omega, by omega⟩).mono ?_
  intro e w' hp
  obtain ⟨e1, F', e2, e3⟩ := h.layA hm hp (fun h0 => by
    have := recK_size h0 ht
    exact ⟨takesF_rec h0, by omega, by omega⟩)
  refine ⟨e1, F', ?_⟩
  rcases e3 with ⟨e3, e4⟩ | ⟨e3, e4, e5⟩
  · refine ⟨_, e3, e2, .inl ⟨rfl, _, ?_, e4⟩⟩
    split
    · rename_i h0
      have := recK_size h0 ht
      omega
    · omega
  · exact ⟨_, e4, e2, .inr ⟨e3, rfl, e5⟩⟩

/-- A crash of a store that stood; opened again. -/
theorem crash_openA {w : World} {C g q p r m u : Nat} {F : Nat → Prop} {rm : Int} {recs : List ByteArray} {A : Option Addr} {c : Nat} (keep : List Int) (h : StoreA w C g q p r F m u rm recs) (hm : m ≤ 80) (hc : keep.length ≤ c) (hr : Kd.C (Kd.int .i64) w A keep.length keep) (hA : ∀ ad, A = some ad → 0 < keep.length → ad.block ≠ p ∧ ad.block ≠ r) :
    Calls Tryd.prog 21 #[.pointer (some ⟨p, 0, none⟩), .slice A keep.length c] w fun e w' => e = .returned (.tuple #[]) ∧ DFr p r w w' ∧
      ∀ w2, Below w'.heap.size w' w2 → Calls Tryd.prog 12 #[.pointer (some ⟨p, 0, none⟩)] w2 fun e w3 => ∃ C' g' q', e = .returned (.tuple #[.pointer (some ⟨g', 0, none⟩), .int .i64 0]) ∧ StRep w3 C' g' q' (ofS recs) ∧ BFr w2.heap.size p r w2 w3 := by
  obtain ⟨D, L, segs, S, h, rfl⟩ := h
  have hi := h.inv
  refine (crash_any keep h.dsk hi.ok.crash (by have := hi.ok.len; omega) hc hr hA).mono ?_
  rintro e w' ⟨ns, he, _, _, _, hd, hf⟩
  refine ⟨he, hf, fun w2 hb => ?_⟩
  refine (open_segs (hd.below hb) (hi.ok.crashed keep ns) (crash_alive hi hm keep ns) rfl rfl (by have := hi.lens; omega) hi.small tail_nil (by have := hi.len; omega)).mono ?_
  rintro e w3 ⟨a, c, rfl, hf, ⟨S', C', g', q', hS, rfl, rfl, hst⟩ | ⟨hc, _⟩⟩
  · rw [h.flat, h.tak] at hS
    cases hS
    rw [← h.ofS]
    exact ⟨C', g', q', rfl, hst, hf⟩
  · rw [h.flat, h.tak] at hc
    cases hc

theorem open_segs2 {w : World} {p r k : Nat} {D : DSt} {segs : List (List ByteArray)} {tl : ByteArray} (hd : DRep w p r D) (hok : DOk k D) (hD : Datas room D segs tl) (ho : D.off = false) (ha : D.armed = false) (hk : segs.length ≤ 90) (hs : ∀ rs ∈ segs, ∀ r ∈ rs, r.size ≤ 65535) (ht : Tail tl) (hl : segs.flatten.length ≤ 400000) :
    Calls Tryd.prog 12 #[.pointer (some ⟨p, 0, none⟩)] w fun e w' => ∃ a c, e = .returned (.tuple #[.pointer a, .int .i64 c]) ∧ BFr w.heap.size p r w w' ∧
      ((∃ S C g q, takesL s0 segs.flatten = some S ∧ a = some ⟨g, 0, none⟩ ∧ c = 0 ∧ StRep w' C g q S ∧ w.heap.size ≤ C) ∨ (takesL s0 segs.flatten = none ∧ a = none ∧ c = 2)) := by
  refine (storeOpen_any hd hok (open_cap room_le hD ho ha hk hs ht hl)).mono ?_
  rintro e w' ⟨x, D', L', all, hend, hd', hf, hx⟩
  obtain ⟨rfl, rfl, h3⟩ := openEnd_of room_le hD ho ha hk hs ht hend
  rcases hx with ⟨_, S, hS, C, g, q, hq, hqC, rfl, hst, hlog⟩ | ⟨_, hc, rfl⟩ | ⟨hc, _⟩
  · exact ⟨_, _, rfl, hf, .inl ⟨S, C, g, q, hS, rfl, rfl, hst, by omega⟩⟩
  · exact ⟨_, _, rfl, hf, .inr ⟨hc, rfl, rfl⟩⟩
  · exact absurd rfl hc

/-- A crash of a store whose disk went off; opened again. -/
theorem crash_openD {w : World} {C g q p r m : Nat} {F : Nat → Prop} {recs : List ByteArray} {rec : ByteArray} {A : Option Addr} {c : Nat} (keep : List Int) (h : StoreD w C g q p r F m recs rec) (hm : m ≤ 80) (hrec : rec.size ≤ 65535) (ht : takesL s0 recs = some (ofS recs)) (ht2 : takesL s0 (recs ++ [rec]) = some (ofS (recs ++ [rec]))) (hl : recs.length ≤ 1000)
    (hc : keep.length ≤ c) (hr : Kd.C (Kd.int .i64) w A keep.length keep) (hA : ∀ ad, A = some ad → 0 < keep.length → ad.block ≠ p ∧ ad.block ≠ r) :
    Calls Tryd.prog 21 #[.pointer (some ⟨p, 0, none⟩), .slice A keep.length c] w fun e w' => e = .returned (.tuple #[]) ∧ DFr p r w w' ∧
      ∀ w2, Below w'.heap.size w' w2 → Calls Tryd.prog 12 #[.pointer (some ⟨p, 0, none⟩)] w2 fun e w3 => ∃ C' g' q' S', e = .returned (.tuple #[.pointer (some ⟨g', 0, none⟩), .int .i64 0]) ∧ (S' = ofS recs ∨ S' = ofS (recs ++ [rec])) ∧ StRep w3 C' g' q' S' ∧ BFr w2.heap.size p r w2 w3 ∧ w2.heap.size ≤ C' := by
  obtain ⟨D, L, segs, h1, h2, h3, h4, h5, h6, h7, h8, h9⟩ := h
  refine (crash_any keep h3 h4.ok.crash (by have := h4.ok.len; omega) hc hr hA).mono ?_
  rintro e w' ⟨ns, he, _, _, _, hd, hf⟩
  refine ⟨he, hf, fun w2 hb => ?_⟩
  obtain ⟨segs2, tl, d1, d2, d3, d4, d5⟩ := crash_dead h4 (by omega) hrec keep ns
  rw [h6] at d5
  have hlen : segs2.flatten.length ≤ 400000 := by
    rcases d5 with e | e
    · rw [e]; omega
    · rw [e, List.length_append]; simp only [List.length_cons, List.length_nil]; omega
  refine (open_segs2 (hd.below hb) (h4.ok.crashed keep ns) d1 rfl rfl d3 d4 d2 hlen).mono ?_
  rintro e w3 ⟨a, c, rfl, hf, ⟨S', C', g', q', hS, rfl, rfl, hst, hC'⟩ | ⟨hc, _⟩⟩
  · rcases d5 with e | e
    · rw [e, ht] at hS
      cases hS
      exact ⟨C', g', q', _, rfl, .inl rfl, hst, hf, hC'⟩
    · rw [e, ht2] at hS
      cases hS
      exact ⟨C', g', q', _, rfl, .inr rfl, hst, hf, hC'⟩
  · rcases d5 with e | e
    · rw [e, ht] at hc; cases hc
    · rw [e, ht2] at hc; cases hc

end Go.Proofs.YtdogmcpmlglkfaaDoor

namespace Go.Proofs.YtdogmcpmlglkfaaDoor
open Go.RowKit Go.Proofs.YtdogmcpmlglkfaaDoorW.PrintWords Go.Proofs.YtdogmcpmlglkfaaDoor.PRef

/-- The row of the records, apart from the store's blocks. -/
structure RInv (w0 w : World) (C q p r : Nat) (F : Nat → Prop) (recs : List ByteArray) (rv : Value) : Prop where
  row : w.ownsRow w0.heap.size 9 1 rv recs.length (recs.map Value.string)
  sep : ∀ k, rv.ownBlock = some k → k ≠ p ∧ k ≠ r ∧ k ≠ q ∧ ¬ F k
  bel : Below w0.heap.size w0 w
  hp : w0.heap.size ≤ p ∧ p < w.heap.size
  hr : w0.heap.size ≤ r ∧ r < w.heap.size
  hq : w0.heap.size ≤ q ∧ q < w.heap.size
  hC : w0.heap.size ≤ C
  rng : ∀ b, F b → C ≤ b ∧ b < w.heap.size

theorem RInv.below {w0 w w' : World} {C q p r : Nat} {F : Nat → Prop} {recs : List ByteArray} {rv : Value} (h : RInv w0 w C q p r F recs rv) (hb : Below w.heap.size w w') : RInv w0 w' C q p r F recs rv := by
  have hz := hb.size
  exact ⟨own_below h.row hb, h.sep, h.bel.trans (hb.mono h.bel.size), ⟨h.hp.1, by have := h.hp.2; omega⟩, ⟨h.hr.1, by have := h.hr.2; omega⟩, ⟨h.hq.1, by have := h.hq.2; omega⟩, h.hC, fun b hb => ⟨(h.rng b hb).1, by have := (h.rng b hb).2; omega⟩⟩

theorem RInv.sfr {w0 w w' : World} {C q p r : Nat} {F F' : Nat → Prop} {recs : List ByteArray} {rv : Value} (h : RInv w0 w C q p r F recs rv) (hf : SFr F p r q w w') (hF : ∀ b, b < w.heap.size → F' b → F b) (hr : ∀ b, F' b → C ≤ b ∧ b < w'.heap.size) : RInv w0 w' C q p r F' recs rv := by
  have hlt := fun k (hk : rv.ownBlock = some k) => (h.row.lt k hk).2
  have hz := hf.size
  refine ⟨ownsRow_move h.row fun k hk => hf.block k (hlt k hk) ?_, fun k hk => ?_, hf.to_below h.rng h.bel h.hp.1 h.hr.1 h.hq.1 h.hC, ⟨h.hp.1, by have := h.hp.2; omega⟩, ⟨h.hr.1, by have := h.hr.2; omega⟩, ⟨h.hq.1, by have := h.hq.2; omega⟩, h.hC, hr⟩
  · have := h.sep k hk
    rintro (e | e | e | e)
    · exact this.1 e
    · exact this.2.1 e
    · exact this.2.2.1 e
    · exact this.2.2.2 e
  · have := h.sep k hk
    exact ⟨this.1, this.2.1, this.2.2.1, fun e => this.2.2.2 (hF k (hlt k hk) e)⟩

theorem RInv.dfr {w0 w w' : World} {C q p r : Nat} {F : Nat → Prop} {recs : List ByteArray} {rv : Value} (h : RInv w0 w C q p r F recs rv) (hf : DFr p r w w') : RInv w0 w' C q p r F recs rv :=
  h.sfr (hf.mono fun i _ h => by rcases h with h | h; exact .inl h; exact .inr (.inl h)) (fun _ _ h => h) (fun b hb => ⟨(h.rng b hb).1, by have := (h.rng b hb).2; have := hf.size; omega⟩)

theorem RInv.bfr {w0 w w' : World} {C q p r B : Nat} {F : Nat → Prop} {recs : List ByteArray} {rv : Value} (h : RInv w0 w C q p r F recs rv) (hf : BFr B p r w w') (hB : w.heap.size ≤ B) : RInv w0 w' C q p r F recs rv :=
  h.dfr ⟨hf.os, hf.tape, hf.output, hf.size, fun k hk hn => hf.block k hk (by rintro (e | e | e); exact hn (.inl e); exact hn (.inr e); omega)⟩

theorem RInv.push {w0 w w8 : World} {C q p r : Nat} {F : Nat → Prop} {recs : List ByteArray} {rec : ByteArray} {rv v' : Value} {o : Obj} (h : RInv w0 w C q p r F recs rv)
    (hown : w8.ownsRow w0.heap.size 9 1 v' (recs ++ [rec]).length ((recs ++ [rec]).map Value.string)) (hg : (w.alloc o).grownBy w8 rv.ownBlock) (hat : v'.ownBlock = rv.ownBlock ∨ v'.ownBlock = some (w.alloc o).heap.size) : RInv w0 w8 C q p r F (recs ++ [rec]) v' := by
  have hz : w.heap.size ≤ w8.heap.size := Nat.le_trans (by rw [asz]; omega) hg.size
  refine ⟨hown, fun k hk => ?_, (h.bel.alloc h.bel.size _).grown hg (by rw [asz]; have := h.bel.size; omega) (fun k hk => (h.row.lt k hk).1), ⟨h.hp.1, by have := h.hp.2; omega⟩, ⟨h.hr.1, by have := h.hr.2; omega⟩, ⟨h.hq.1, by have := h.hq.2; omega⟩, h.hC, fun b hb => ⟨(h.rng b hb).1, by have := (h.rng b hb).2; omega⟩⟩
  rcases hat with e | e
  · exact h.sep k (e ▸ hk)
  · rw [e, asz] at hk
    simp only [Option.some.injEq] at hk
    exact ⟨by have := h.hp.2; omega, by have := h.hr.2; omega, by have := h.hq.2; omega, fun hc => by have := (h.rng k hc).2; omega⟩

theorem StoreA.push {w w8 : World} {C g q p r m u : Nat} {F : Nat → Prop} {rm : Int} {recs : List ByteArray} {rv : Value} {o : Obj} (h : StoreA w C g q p r F m u rm recs) (hs : ∀ k, rv.ownBlock = some k → k ≠ p ∧ k ≠ r ∧ k ≠ q ∧ ¬ F k) (hg : (w.alloc o).grownBy w8 rv.ownBlock) : StoreA w8 C g q p r F m u rm recs := by
  obtain ⟨D, L, segs, S, h, h2⟩ := h
  obtain ⟨ev, qu, hst, hF⟩ := h.st
  have hz : w.heap.size ≤ w8.heap.size := Nat.le_trans (by rw [asz]; omega) hg.size
  have hm : ∀ k, k < w.heap.size → (k = p ∨ k = r ∨ k = q ∨ F k) → w8.heap[k]? = w.heap[k]? := fun k hk hc => by
    refine (hg.block k (by rw [asz]; omega) (fun e => ?_)).trans (Below.heap_alloc _ _ _ hk)
    have := hs k e.symm
    rcases hc with e | e | e | e
    · exact this.1 e
    · exact this.2.1 e
    · exact this.2.2.1 e
    · exact this.2.2.2 e
  refine ⟨D, L, segs, S, ⟨⟨ev, qu, ⟨?_, ?_, ?_, hst.apart, hst.base⟩, hF.size hz⟩, ?_, ?_, h.inv, h.flat, h.tak, h.hq, h.hp, h.hr⟩, h2⟩
  · exact (hm g hst.lt (.inr (.inr (.inr hF.g)))).trans hst.blk
  · exact hst.evs.move fun k hk => hm k (hst.evs.lt hk).2 (.inr (.inr (.inr (hF.ev k hk))))
  · exact hst.qus.move fun k hk => hm k (hst.qus.lt hk).2 (.inr (.inr (.inr (hF.qu k hk))))
  · exact h.log.move (hm q h.log.lt (.inr (.inr (.inl rfl))))
  · exact h.dsk.move (hm p h.dsk.lt (.inl rfl)) (hm r h.dsk.2.lt (.inr (.inl rfl)))

theorem of_row {w w0 : World} {C q p r : Nat} {F : Nat → Prop} {recs : List ByteArray} {A : Option Addr} {c : Nat} (h : RInv w0 w C q p r F recs (.slice A recs.length c)) (hl : recs.length ≤ 1000) (ht : takesL s0 recs = some (ofS recs)) :
    Calls Tryd.prog 13 #[.slice A recs.length c] w fun e w' => ∃ v, e = .returned (.tuple #[v, .bool true]) ∧ SVal w' v (ofS recs) ∧ SFar w.heap.size v ∧ Below w.heap.size w w' := by
  obtain ⟨A', c', e, hc, hr, _⟩ := own_read h.row (by omega)
  cases e
  have := of_any hr hc hl
  rw [ht] at this
  exact this

theorem SVal.dfr {w w' : World} {v : Value} {S : SSt} {B p r : Nat} (h : SVal w v S) (hf : SFar B v) (hp : p < B) (hr : r < B) (hd : DFr p r w w') : SVal w' v S :=
  h.far hf fun k h1 h2 => hd.block k h2 (by rintro (e | e) <;> omega)

/-- What may be the state of the law ahead of act j. -/
inductive CrSt (w0 w : World) (C g q p r : Nat) (F : Nat → Prop) (j : Nat) (recs : List ByteArray) : ByteArray → Prop
  | alive {u : Nat} : StoreA w C g q p r F j u 1048576 recs → u ≤ 1009 * j → CrSt w0 w C g q p r F j recs ⟨#[]⟩
  | dead {rec : ByteArray} : StoreD w C g q p r F j recs rec → takesL s0 recs = some (ofS recs) → takesL s0 (recs ++ [rec]) = some (ofS (recs ++ [rec])) → 0 < rec.size → rec.size ≤ 65535 → CrSt w0 w C g q p r F j recs rec

theorem recK_pos (k : Int) (t : ByteArray) (n : Int) : 0 < (recK k t n).size := by
  have hc : ∀ (c : UInt8) (s : ByteArray), (⟨#[c]⟩ ++ s : ByteArray).size = 1 + s.size := fun c s => by rw [ByteArray.size_append]; rfl
  unfold recK
  split
  · rw [hc]; omega
  · split
    · rw [hc]; omega
    · split
      · rw [hc]; omega
      · split
        · rw [hc]; omega
        · exact Nat.zero_lt_one

theorem takes_snoc {recs : List ByteArray} {k : Int} {t : ByteArray} {n : Int} (h : takesL s0 recs = some (ofS recs)) (hn : noK (ofS recs) k t n = 0) : takesL s0 (recs ++ [recK k t n]) = some (ofS (recs ++ [recK k t n])) := by
  have h1 : takesL s0 (recs ++ [recK k t n]) = some (takesF (ofS recs) (recK k t n)).1 := by
    rw [takesL_append, h]
    show takesL (ofS recs) [recK k t n] = _
    rw [takesL, if_pos (takesF_rec hn)]
    rfl
  obtain ⟨X, hX⟩ : ∃ X, takesL s0 (recs ++ [recK k t n]) = some X := ⟨_, h1⟩
  have e : ofS (recs ++ [recK k t n]) = X := by rw [ofS, hX]; rfl
  rw [e, hX]

end Go.Proofs.YtdogmcpmlglkfaaDoor

namespace Go.Proofs.YtdogmcpmlglkfaaDoor
open Go.RowKit Go.Proofs.YtdogmcpmlglkfaaDoorW.PrintWords Go.Proofs.YtdogmcpmlglkfaaDoor.PRef

theorem StoreA.stp {w : World} {C g q p r m u : Nat} {F : Nat → Prop} {rm : Int} {recs : List ByteArray} (h : StoreA w C g q p r F m u rm recs) : StRep w C g q (ofS recs) := by
  obtain ⟨D, L, segs, S, h, _⟩ := h
  rw [← h.ofS]
  exact h.st.rep

theorem StoreD.stp {w : World} {C g q p r m : Nat} {F : Nat → Prop} {recs : List ByteArray} {rec : ByteArray} (h : StoreD w C g q p r F m recs rec) : StRep w C g q (ofS recs) := by
  obtain ⟨D, L, segs, h1, _⟩ := h
  exact h1.rep

theorem same2 {w : World} {v u : Value} {S T : SSt} {b : Bool} (h : SVal w v S) (k : SVal w u T) (hb : sameB S T = b) : Calls Tryd.prog 14 #[v, u] w fun e w' => e = .returned (.bool b) ∧ Below w.heap.size w w' := by
  rw [← hb]
  exact same_any h k

theorem bfr_block {w w' : World} {B p r k : Nat} (h : BFr B p r w w') (hk : k < w.heap.size) (hB : w.heap.size ≤ B) (hp : k ≠ p) (hr : k ≠ r) : w'.heap[k]? = w.heap[k]? := h.block k hk (by rintro (e | e | e) <;> omega)

set_option maxHeartbeats 16000000 in
set_option maxRecDepth 100000 in
theorem scrash_walk (A : Option Addr) (c : Nat) (l : List Act11) (arm : Int) (A2 : Option Addr) (c2 : Nat) (keep : List Int) (w : World) (hc : l.length ≤ c) (hr : Kd.C k48 w A l.length l) (hc2 : keep.length ≤ c2) (hr2 : Kd.C (Kd.int .i64) w A2 keep.length keep) :
    Calls Tryd.prog 7 #[.slice A l.length c, .int .i64 arm, .slice A2 keep.length c2] w fun e w' => e = .returned (.bool true) ∧ Below w.heap.size w w' := by
  obtain ⟨rg, hsm, hgr⟩ := great11_calls hr hc
  have HG := Lib.hid hgr
  have HR := Lib.hid hr
  have HR2 := Lib.hid hr2
  clear hgr hr hr2
  go_enter Tryd.func7, Tryd.ntmps7
  cases rg with
  | true =>
    go_wp2_with (first
      | (go_at_call 17; refine HG.out.mono ?_; rintro e w1 ⟨rfl, hd⟩; have HB1 := Lib.hid hd.below; clear hd)
      | (go_at_call 8; refine (awake11 _).mono ?_; rintro e w2 ⟨rfl, hb2⟩))
    go_ret
    exact ⟨rfl, HB1.out.trans (hb2.mono HB1.out.size)⟩
  | false =>
    obtain ⟨hs1, hs2⟩ := hsm rfl
    have HSM := Lib.hid hs2
    clear hs2 hsm
    go_upto_region 7 with (first
      | (go_at_call 17; refine HG.out.mono ?_; rintro e w0 ⟨rfl, hd⟩; have HB0 := Lib.hid hd.below; clear hd)
      | (go_at_call 8; refine (awake11 _).mono ?_; rintro e w1 ⟨rfl, hb1⟩; have HB1 := Lib.hid (HB0.out.trans (hb1.mono HB0.out.size)); clear hb1)
      | (go_at_call 9; refine (new_ok 1048576 _ (by omega) (by omega)).mono ?_; rintro e w2 ⟨p, r, rfl, hd2, hp0, hr0, hb2⟩; have hp := Nat.le_trans HB1.out.size hp0; have hr := Nat.le_trans HB1.out.size hr0; have HD2 := Lib.hid hd2; have HB2 := Lib.hid (HB1.out.trans (hb2.mono HB1.out.size)); clear hd2 hb2 hp0 hr0)
      | (go_at_call 12; refine (open_new HD2.out (by omega) (by omega)).mono ?_; rintro e w3 ⟨C, g, q, F3, rfl, hq0, hC0, hs3, hf3⟩; have hq := Nat.le_trans HB2.out.size hq0; have hC := Nat.le_trans HB2.out.size hC0; have HS3 := Lib.hid hs3.armed; have HB3 := Lib.hid (hf3.to_below HB2.out hp hr HB2.out.size); clear hs3 hf3 hq0 hC0))
    obtain ⟨a7, ha7⟩ : ∃ a7 : Int, wrap64 ((IntKind.u64.wrap arm).tmod 60) = a7 := ⟨_, rfl⟩
    have ha8 : 0 ≤ a7 ∧ a7 ≤ 1000000 := by
      have h0 : 0 ≤ IntKind.u64.wrap arm := by
        rw [IntKind.wrap_u64]
        omega
      rw [← ha7, Int.tmod_eq_emod_of_nonneg h0, wrap_small (by omega)]
      omega
    have HA7 := Lib.hid (fun (W : World) (h : StoreA W C g q p r F3 0 0 1048576 []) => arm11 a7 h ha8)
    go_wp2_with (go_at_call 20; rw [ha7]; refine (HA7.out _ HS3.out).mono ?_; rintro e w4 ⟨rfl, hs4, hf4⟩; have HS4 := Lib.hid hs4; have HB4 := Lib.hid (hf4.to_below HB3.out hp hr); clear hs4 hf4)
    go_loopw [10, 11, 12] (fun rv uv iv wr => ∃ (j : Nat) (recs : List ByteArray) (F : Nat → Prop) (und : ByteArray), iv = .int .i64 j ∧ uv = .string und ∧ j ≤ l.length ∧ recs.length ≤ j ∧ RInv w wr C q p r F recs rv ∧ CrSt w wr C g q p r F j recs und) (fun _ _ iv _ => l.length - (intOf iv).toNat)
    case atStart =>
      have hl4 := HS4.out.lts
      exact ⟨0, [], F3, ⟨#[]⟩, rfl, rfl, Nat.zero_le _, Nat.le_refl _, ⟨own_none _ _ _ _, (fun k hk => by cases hk), HB4.out, ⟨hp, hl4.1⟩, ⟨hr, hl4.2.1⟩, ⟨hq, hl4.2.2⟩, hC, HS4.out.rng⟩, .alive HS4.out (Nat.le_refl _)⟩
    case round =>
      obtain ⟨j, recs, F, und, rfl, rfl, hj, hrl, hri, hst⟩ := hrel
      obtain ⟨Ar, cr, rfl, hcr, _, _⟩ := own_read hri.row (by omega)
      have HRI := Lib.hid hri
      clear HA7 HS3 HS4 HB4 HB3 HD2 HB2 HB1 HB0 hri ha7 ha8
      rcases hst with ⟨hsa, hu⟩ | ⟨hsd, ht1, ht2, hpos, hsz⟩
      · rename_i u
        have HSA := Lib.hid hsa
        have hof := of_row HRI.out (by omega) hsa.tak
        obtain ⟨S, hS⟩ : ∃ S, S = ofS recs := ⟨_, rfl⟩
        rw [← hS] at hof
        have HOF := Lib.hid hof
        have HS := Lib.hid hS
        clear hS hsa hof
        by_cases hlt : j < l.length
        · obtain ⟨ad, rfl, k0, k1, k2⟩ := act11_at (Kd.C_below HR.out HRI.out.bel) hlt
          have hts := HSM.out l[j] (List.getElem_mem hlt)
          obtain ⟨⟨k, t, n⟩, hx⟩ : ∃ x, x = l[j] := ⟨_, rfl⟩
          rw [← hx] at k0 k1 k2 hts
          simp only at k0 k1 k2 hts
          clear hx
          go_upto_region 14 with (go_at_call 13; refine HOF.out.mono ?_; rintro e w5 ⟨v5, rfl, hv5, _, hb5⟩; obtain ⟨A5, c5, A6, c6, rfl, hx5⟩ := hv5.out; have HV5 := Lib.hid hv5; have HB5 := Lib.hid hb5; clear hv5 hb5 hx5)
          obtain ⟨wz, hwz⟩ : ∃ wz, wz = w5.alloc (.cells #[.string S.room, .slice A5 S.events.length c5, .int .i64 S.used, .slice A6 S.queue.length c6] 35) := ⟨_, rfl⟩
          have hbz : Below w5.heap.size w5 wz := by rw [hwz]; exact ba_size _ _ _
          have hblk : wz.heap[w5.heap.size]? = some (.cells #[.string S.room, .slice A5 S.events.length c5, .int .i64 S.used, .slice A6 S.queue.length c6] 35) := by rw [hwz]; exact heap_alloc_new _ _
          have hbr := HB5.out.trans (hbz.mono HB5.out.size)
          have HIZ := Lib.hid ((HRI.out.below HB5.out).below hbz)
          have HAZ := Lib.hid (HSA.out.below hbr)
          have HVZ := Lib.hid (HV5.out.below hbz)
          obtain ⟨b, hb⟩ : ∃ b, b = w5.heap.size := ⟨_, rfl⟩
          rw [← hb] at hblk ⊢
          obtain ⟨d0, d1, d2, d3, _⟩ := box4f hblk
          have m0 := (hbr.cell (World.block_lt_of_cell? _ _ k0)).trans k0
          have m1 := (hbr.cell (World.block_lt_of_cell? _ _ k1)).trans k1
          have m2 := (hbr.cell (World.block_lt_of_cell? _ _ k2)).trans k2
          rw [← hwz]
          clear hwz hbz hbr k0 k1 k2 hb hblk
          have hX := does_snd S k t n
          have hR := does_fst (S := S) (k := k) (t := t) (n := n)
          have HDO := Lib.hid (fun (W : World) (h : SVal W (.agg #[.string S.room, .slice A5 S.events.length c5, .int .i64 S.used, .slice A6 S.queue.length c6]) S) => does_any k t n h (by omega))
          have HD11 := Lib.hid (fun (W : World) (h : StoreA W C g q p r F j u 1048576 recs) => do11A k t n hts h (by omega) (by omega) (by omega))
          have HSN := Lib.hid (fun (hn : noK (ofS recs) k t n = 0) => takes_snoc HSA.out.tak hn)
          have hKS := fun (hn : noK S k t n = 0) => recK_size hn hts
          rw [← HS.out] at HD11 HSN
          obtain ⟨⟨R, X⟩, hRX⟩ : ∃ Y, Y = doesF S k t n := ⟨_, rfl⟩
          rw [← hRX] at HDO hX hR
          simp only at HDO hX hR
          rw [← hX] at HD11 hR HSN hKS
          have HRK := Lib.hid hR
          have HKS := Lib.hid hKS
          clear hRX hX hR hts hKS
          have hbx := (Below.refl wz.heap.size wz).drew
          have x0 : wz.drew.cell? ⟨b, 0, none⟩ = some (.string S.room) := d0
          have x1 : wz.drew.cell? ⟨b, 1, none⟩ = some (.slice A5 S.events.length c5) := d1
          have x2 : wz.drew.cell? ⟨b, 2, none⟩ = some (.int .i64 S.used) := d2
          have x3 : wz.drew.cell? ⟨b, 3, none⟩ = some (.slice A6 S.queue.length c6) := d3
          have x4 : wz.drew.cell? (ad.add (j * 3)) = some (.int .i64 k) := m0
          have x5 : wz.drew.cell? ⟨(ad.add (j * 3)).block, (ad.add (j * 3)).off + 1, none⟩ = some (.string t) := m1
          have x6 : wz.drew.cell? ⟨(ad.add (j * 3)).block, (ad.add (j * 3)).off + 2, none⟩ = some (.int .i64 n) := m2
          go_region_held3 (fun x => x.cell? ⟨b, 0, none⟩ = some (.string S.room) ∧ x.cell? ⟨b, 1, none⟩ = some (.slice A5 S.events.length c5) ∧ x.cell? ⟨b, 2, none⟩ = some (.int .i64 S.used) ∧ x.cell? ⟨b, 3, none⟩ = some (.slice A6 S.queue.length c6) ∧ x.cell? (ad.add (j * 3)) = some (.int .i64 k) ∧ x.cell? ⟨(ad.add (j * 3)).block, (ad.add (j * 3)).off + 1, none⟩ = some (.string t) ∧ x.cell? ⟨(ad.add (j * 3)).block, (ad.add (j * 3)).off + 2, none⟩ = some (.int .i64 n) ∧ Below wz.heap.size wz x) (first | (refine ⟨?_, ?_, ?_, ?_, ?_, ?_, ?_, ?_⟩ <;> assumption) | go_keep)
            (first
              | (go_at_call 18; refine (HDO.out _ (HVZ.out.below ?_)).mono ?_; assumption; rintro e w6 ⟨rfl, hb6⟩; obtain ⟨y0, y1, y2, y3, y4, y5, y6, hx6⟩ := keep7B (a0 := ⟨b, 0, none⟩) (a1 := ⟨b, 1, none⟩) (a2 := ⟨b, 2, none⟩) (a3 := ⟨b, 3, none⟩) (a4 := ad.add (j * 3)) (a5 := ⟨(ad.add (j * 3)).block, (ad.add (j * 3)).off + 1, none⟩) (a6 := ⟨(ad.add (j * 3)).block, (ad.add (j * 3)).off + 2, none⟩) (by assumption) (by assumption) (by assumption) (by assumption) (by assumption) (by assumption) (by assumption) (by assumption) hb6))
          have HP6 := Lib.hid (HIZ.out.below hx6)
          have HA6 := Lib.hid (HAZ.out.below hx6)
          clear x0 x1 x2 x3 x4 x5 x6 y0 y1 y2 y3 hbx d0 d1 d2 d3 m0 m1 m2 hb6 hx6 HDO HIZ HAZ HVZ HV5 HB5 HOF
          go_upto_region 16 with (go_at_call 19; refine (HD11.out _ HA6.out).mono ?_; rintro e w7 ⟨hf7, F7, x7, rfl, hF7, hx7⟩; have HX7 := Lib.hid hx7; have HF7 := Lib.hid hF7; have HFR7 := Lib.hid hf7; clear hx7 hF7 hf7)
          clear y4 y5 y6
          rcases HX7.out with ⟨rfl, u7, hu7, hs7⟩ | ⟨rfl, rfl, hs7⟩
          · by_cases hX0 : x7 = 0
            · subst hX0
              rw [if_pos rfl, ← HRK.out rfl] at hs7
              have HS7 := Lib.hid hs7
              have HR7 := Lib.hid (HP6.out.sfr HFR7.out HF7.out hs7.rng)
              obtain ⟨i0, hii0, hz0, hz1, hz2⟩ := info_parts info_str
              clear hs7 HX7
              go_wp2_with (at_builtin; refine wpList_append_strs _ rfl (.tmp 101) (.tmp 103) 22 rfl w.heap.size 9 i0 Tryd.underlying22 hii0 hz0 hz1 hz2 _ recs [R] rfl (HR7.out.row.alloc _) (some ⟨w7.heap.size, 0, none⟩) 1 rfl (one_str _ _ _) (by simp only [List.length_cons, List.length_nil]; omega) (by rw [asz]; have := HR7.out.bel.size; omega) ?_; intro v' w8 hown8 hg8 hat8; have HR8 := Lib.hid (HR7.out.push hown8 hg8 hat8); have HS8 := Lib.hid (HS7.out.push HR7.out.sep hg8))
              exact ⟨⟨j + 1, recs ++ [R], F7, ⟨#[]⟩, by go_num, rfl, by omega, by simp; omega, HR8.out, .alive HS8.out (by omega)⟩, by simp [intOf]; omega⟩
            · have hb0 : (x7 != 0) = true := by simpa using hX0
              rw [if_neg hX0] at hs7
              have HS7 := Lib.hid hs7
              have HR7 := Lib.hid (HP6.out.sfr HFR7.out HF7.out hs7.rng)
              clear hs7 HX7
              go_wp2_with fail
              exact ⟨⟨j + 1, recs, F7, ⟨#[]⟩, by go_num, rfl, by omega, by omega, HR7.out, .alive HS7.out (by omega)⟩, by simp [intOf]; omega⟩
          · have HS7 := Lib.hid hs7
            have hrng : ∀ b, F7 b → C ≤ b ∧ b < w7.heap.size := by
              obtain ⟨D, L, segs, h1, _⟩ := hs7
              exact h1.rng
            have HR7 := Lib.hid (HP6.out.sfr HFR7.out HF7.out hrng)
            clear hs7 HX7 hrng
            go_wp2_with fail
            exact ⟨⟨j + 1, recs, F7, R, by go_num, rfl, by omega, by omega, HR7.out, .dead (by rw [HRK.out rfl]; exact HS7.out) HSA.out.tak (by rw [HRK.out rfl]; exact HSN.out rfl) (by rw [HRK.out rfl]; exact recK_pos _ _ _) (by rw [HRK.out rfl]; have := HKS.out rfl; omega)⟩, by simp [intOf]; omega⟩
        · obtain rfl : j = l.length := by omega
          have hl8 := ofS_lenA HSA.out
          have hsr := HSA.out.stp
          rw [← HS.out] at hl8 hsr
          have HSR := Lib.hid hsr
          have hpr := HSA.out.lts
          clear hsr
          go_upto_region 23 with (first
            | (go_at_call 16; refine (state_own HSR.out ⟨by omega, by omega⟩).mono ?_; rintro e w4 ⟨v4, rfl, hv4, hfar4, hb4⟩; obtain ⟨A4, c4, B4, d4, rfl, hx4⟩ := hv4.out; have HV4 := Lib.hid hv4; have HFAR4 := Lib.hid hfar4; have HB4 := Lib.hid hb4; clear hv4 hfar4 hb4 hx4)
            | (go_at_call 15; refine (as_row _ _ _ _ _ _ _ _ _).mono ?_; rintro e w5 ⟨rfl, hb5⟩; have HV5 := Lib.hid (HV4.out.below hb5); have HB5 := Lib.hid (HB4.out.trans (hb5.mono HB4.out.size)); clear hb5))
          obtain ⟨wz, hwz⟩ : ∃ wz, wz = w5.alloc (.cells #[.string S.room, .slice A4 S.events.length c4, .int .i64 S.used, .slice B4 S.queue.length d4] 35) := ⟨_, rfl⟩
          have hbz : Below w5.heap.size w5 wz := by rw [hwz]; exact ba_size _ _ _
          have hblk : wz.heap[w5.heap.size]? = some (.cells #[.string S.room, .slice A4 S.events.length c4, .int .i64 S.used, .slice B4 S.queue.length d4] 35) := by rw [hwz]; exact heap_alloc_new _ _
          have hbr := HB5.out.trans (hbz.mono HB5.out.size)
          have hz5 := HB5.out.size
          have HIZ := Lib.hid (HRI.out.below hbr)
          have HAZ := Lib.hid (HSA.out.below hbr)
          have HVZ := Lib.hid (HV5.out.below hbz)
          obtain ⟨b, hb⟩ : ∃ b, b = w5.heap.size := ⟨_, rfl⟩
          rw [← hb] at hblk ⊢
          have hbs : b < wz.heap.size := (Array.getElem?_eq_some_iff.1 hblk).1
          have HBLK := Lib.hid hblk
          have hbn : b ≠ p ∧ b ≠ r := ⟨by omega, by omega⟩
          rw [← hwz]
          clear hwz hbz hbr hblk hb
          have HCR := Lib.hid (crash_openA keep HAZ.out (by omega) hc2 (Kd.C_below HR2.out HIZ.out.bel) (fun ad e h0 => keep_ne HR2.out (ad := ad) e h0 hp hr))
          go_upto_region 25 with (first
            | (go_at_call 21; refine HCR.out.mono ?_; rintro e w6 ⟨rfl, hf6, hop6⟩; have HF6 := Lib.hid hf6; have HOP6 := Lib.hid hop6; clear hf6 hop6 HCR)
            | (go_at_call 12; refine (HOP6.out _ (Below.refl _ _)).mono ?_; rintro e w7 ⟨C7, g7, q7, rfl, hst7, hf7⟩; have HST7 := Lib.hid hst7; have HF7 := Lib.hid hf7; clear hst7 hf7))
          have hb7 : b < w6.heap.size := Nat.lt_of_lt_of_le hbs HF6.out.size
          have HBLK7 := Lib.hid ((bfr_block HF7.out hb7 (Nat.le_refl _) hbn.1 hbn.2).trans ((HF6.out.block b hbs (by rintro (e | e); exact hbn.1 e; exact hbn.2 e)).trans HBLK.out))
          have HV7 := Lib.hid ((HVZ.out.dfr HFAR4.out hpr.1 hpr.2.1 HF6.out).bfr HFAR4.out hpr.1 hpr.2.1 HF7.out (Nat.le_refl _))
          have HI7 := Lib.hid ((HIZ.out.dfr HF6.out).bfr HF7.out (Nat.le_refl _))
          have hof7 := of_row HI7.out (by omega) HSA.out.tak
          have hst7 := HST7.out
          rw [← HS.out] at hof7 hst7
          have HOF7 := Lib.hid hof7
          have HSS7 := Lib.hid hst7
          clear hof7 hst7 HOF HAZ HIZ HVZ HBLK
          go_upto_region 28 with (go_at_call 13; refine HOF7.out.mono ?_; rintro e w8 ⟨v8, rfl, hv8, _, hb8⟩; obtain ⟨A8, c8, B8, d8, rfl, hx8⟩ := hv8.out; have HV8 := Lib.hid hv8; have HB8 := Lib.hid hb8; clear hv8 hb8 hx8)
          obtain ⟨wy, hwy⟩ : ∃ wy, wy = w8.alloc (.cells #[.string S.room, .slice A8 S.events.length c8, .int .i64 S.used, .slice B8 S.queue.length d8] 35) := ⟨_, rfl⟩
          have hby : Below w8.heap.size w8 wy := by rw [hwy]; exact ba_size _ _ _
          have hblk2 : wy.heap[w8.heap.size]? = some (.cells #[.string S.room, .slice A8 S.events.length c8, .int .i64 S.used, .slice B8 S.queue.length d8] 35) := by rw [hwy]; exact heap_alloc_new _ _
          have hbr2 := HB8.out.trans (hby.mono HB8.out.size)
          have HIY := Lib.hid (HI7.out.below hbr2)
          have HSY := Lib.hid (HSS7.out.below hbr2)
          have HWY := Lib.hid (HV7.out.below hbr2)
          have HVY := Lib.hid (HV8.out.below hby)
          obtain ⟨e0, e1, e2, e3, _⟩ := box4f ((hbr2.block b (Array.getElem?_eq_some_iff.1 HBLK7.out).1).trans HBLK7.out)
          obtain ⟨b2, hb2⟩ : ∃ b2, b2 = w8.heap.size := ⟨_, rfl⟩
          rw [← hb2] at hblk2 ⊢
          obtain ⟨f0, f1, f2, f3, _⟩ := box4f hblk2
          rw [← hwy]
          clear hwy hby hbr2 hb2 hblk2
          have hbx := (Below.refl wy.heap.size wy).drew
          have x0 : wy.drew.cell? ⟨b, 0, none⟩ = some (.string S.room) := e0
          have x1 : wy.drew.cell? ⟨b, 1, none⟩ = some (.slice A4 S.events.length c4) := e1
          have x2 : wy.drew.cell? ⟨b, 2, none⟩ = some (.int .i64 S.used) := e2
          have x3 : wy.drew.cell? ⟨b, 3, none⟩ = some (.slice B4 S.queue.length d4) := e3
          have y0 : wy.drew.cell? ⟨b2, 0, none⟩ = some (.string S.room) := f0
          have y1 : wy.drew.cell? ⟨b2, 1, none⟩ = some (.slice A8 S.events.length c8) := f1
          have y2 : wy.drew.cell? ⟨b2, 2, none⟩ = some (.int .i64 S.used) := f2
          have y3 : wy.drew.cell? ⟨b2, 3, none⟩ = some (.slice B8 S.queue.length d8) := f3
          have HT1 := Lib.hid trivial
          go_upto_region 29 with fail
          go_region_held3 (fun x => x.cell? ⟨b, 0, none⟩ = some (.string S.room) ∧ x.cell? ⟨b, 1, none⟩ = some (.slice A4 S.events.length c4) ∧ x.cell? ⟨b, 2, none⟩ = some (.int .i64 S.used) ∧ x.cell? ⟨b, 3, none⟩ = some (.slice B4 S.queue.length d4) ∧ x.cell? ⟨b2, 0, none⟩ = some (.string S.room) ∧ x.cell? ⟨b2, 1, none⟩ = some (.slice A8 S.events.length c8) ∧ x.cell? ⟨b2, 2, none⟩ = some (.int .i64 S.used) ∧ x.cell? ⟨b2, 3, none⟩ = some (.slice B8 S.queue.length d8) ∧ Below wy.heap.size wy x) (first | (refine ⟨?_, ?_, ?_, ?_, ?_, ?_, ?_, ?_, ?_⟩ <;> assumption) | go_keep)
            (first
              | (go_at_call 16; refine (state_own (HSY.out.below ?_) ⟨?_, ?_⟩).mono ?_; assumption; omega; omega; rintro e wa ⟨va, rfl, hva, _, hba⟩; obtain ⟨_, _, _, _, _⟩ := keep4B (g := b) (by assumption) (by assumption) (by assumption) (by assumption) (by assumption) hba; obtain ⟨_, _, _, _, hxa⟩ := keep4B (g := b2) (by assumption) (by assumption) (by assumption) (by assumption) (by assumption) hba)
              | (go_at_call 15; refine (as_any hva).mono ?_; rintro e wb ⟨rfl, hbb⟩; have hvb := hva.below hbb; obtain ⟨_, _, _, _, _⟩ := keep4B (g := b) (by assumption) (by assumption) (by assumption) (by assumption) (by assumption) hbb; obtain ⟨_, _, _, _, hxb⟩ := keep4B (g := b2) (by assumption) (by assumption) (by assumption) (by assumption) (by assumption) hbb)
              | (go_at_call 14; refine (same_any hvb (HVY.out.below ?_)).mono ?_; assumption; rintro e wc ⟨rfl, hbc⟩; rw [sameB_self]; clear hvb hva; obtain ⟨_, _, _, _, _⟩ := keep4B (g := b) (by assumption) (by assumption) (by assumption) (by assumption) (by assumption) hbc; obtain ⟨_, _, _, _, hxc⟩ := keep4B (g := b2) (by assumption) (by assumption) (by assumption) (by assumption) (by assumption) hbc)
              | (go_at_call 14; refine (same_any (HWY.out.below ?_) (HVY.out.below ?_)).mono ?_; assumption; assumption; rintro e wd ⟨rfl, hbd⟩; rw [sameB_self]; obtain ⟨_, _, _, _, _⟩ := keep4B (g := b) (by assumption) (by assumption) (by assumption) (by assumption) (by assumption) hbd; obtain ⟨_, _, _, _, hxd⟩ := keep4B (g := b2) (by assumption) (by assumption) (by assumption) (by assumption) (by assumption) hbd))
          go_wp2_with fail
          go_ret
          exact ⟨rfl, HIY.out.bel.trans (hxd.mono HIY.out.bel.size)⟩
      · have HSD := Lib.hid hsd
        have hn1 : ¬ und.toList = [] := fun h => by have := toList_nil_size h; omega
        have hn2 : und.toList.isEmpty = false := by rw [Bool.eq_false_iff]; intro h; exact hn1 (List.isEmpty_iff.1 h)
        have hl1 := takesL_len ht1
        have hl2 := takesL_len ht2
        rw [List.length_append] at hl2
        simp only [s0, List.length_nil, List.length_cons] at hl1 hl2
        have hsr := hsd.stp
        have hpr := And.intro HRI.out.hp.2 HRI.out.hr.2
        have hown : ∀ k, (Value.slice Ar recs.length cr).ownBlock = some k → k < wr.heap.size := fun k hk => (HRI.out.row.lt k hk).2
        have HOWN := Lib.hid hown
        have HTK1 := Lib.hid ht1
        have HTK2 := Lib.hid ht2
        obtain ⟨S, hS⟩ : ∃ S, S = ofS recs := ⟨_, rfl⟩
        obtain ⟨T, hT⟩ : ∃ T, T = ofS (recs ++ [und]) := ⟨_, rfl⟩
        rw [← hS] at hl1 hsr
        rw [← hT] at hl2
        have HS := Lib.hid hS
        have HT := Lib.hid hT
        have HSR := Lib.hid hsr
        clear hsd ht1 ht2 hS hT hsr hown
        by_cases hlt : j < l.length
        all_goals
          go_upto_region 23 with (first
            | (go_at_call 16; refine (state_own HSR.out ⟨by omega, by omega⟩).mono ?_; rintro e w4 ⟨v4, rfl, hv4, hfar4, hb4⟩; obtain ⟨A4, c4, B4, d4, rfl, hx4⟩ := hv4.out; have HV4 := Lib.hid hv4; have HFAR4 := Lib.hid hfar4; have HB4 := Lib.hid hb4; clear hv4 hfar4 hb4 hx4)
            | (go_at_call 15; refine (as_row _ _ _ _ _ _ _ _ _).mono ?_; rintro e w5 ⟨rfl, hb5⟩; have HV5 := Lib.hid (HV4.out.below hb5); have HB5 := Lib.hid (HB4.out.trans (hb5.mono HB4.out.size)); clear hb5))
          obtain ⟨wz, hwz⟩ : ∃ wz, wz = w5.alloc (.cells #[.string S.room, .slice A4 S.events.length c4, .int .i64 S.used, .slice B4 S.queue.length d4] 35) := ⟨_, rfl⟩
          have hbz : Below w5.heap.size w5 wz := by rw [hwz]; exact ba_size _ _ _
          have hblk : wz.heap[w5.heap.size]? = some (.cells #[.string S.room, .slice A4 S.events.length c4, .int .i64 S.used, .slice B4 S.queue.length d4] 35) := by rw [hwz]; exact heap_alloc_new _ _
          have hbr := HB5.out.trans (hbz.mono HB5.out.size)
          have hz5 := HB5.out.size
          have HIZ := Lib.hid (HRI.out.below hbr)
          have HAZ := Lib.hid (HSD.out.below hbr)
          have HVZ := Lib.hid (HV5.out.below hbz)
          obtain ⟨b, hb⟩ : ∃ b, b = w5.heap.size := ⟨_, rfl⟩
          rw [← hb] at hblk ⊢
          have hbs : b < wz.heap.size := (Array.getElem?_eq_some_iff.1 hblk).1
          have HBLK := Lib.hid hblk
          have hbn : b ≠ p ∧ b ≠ r := ⟨by omega, by omega⟩
          have hbw : wr.heap.size ≤ b := by omega
          rw [← hwz]
          clear hwz hbz hbr hblk hb
          have HCR := Lib.hid (crash_openD keep HAZ.out (by omega) hsz HTK1.out HTK2.out (by omega) hc2 (Kd.C_below HR2.out HIZ.out.bel) (fun ad e h0 => keep_ne HR2.out (ad := ad) e h0 hp hr))
          rw [← HS.out, ← HT.out] at HCR
          go_upto_region 25 with (first
            | (go_at_call 21; refine HCR.out.mono ?_; rintro e w6 ⟨rfl, hf6, hop6⟩; have HF6 := Lib.hid hf6; have HOP6 := Lib.hid hop6; clear hf6 hop6 HCR)
            | (go_at_call 12; refine (HOP6.out _ (Below.refl _ _)).mono ?_; rintro e w7 ⟨C7, g7, q7, S7, rfl, hS7, hst7, hf7, hC7⟩; have HST7 := Lib.hid hst7; have HF7 := Lib.hid hf7; have HS7 := Lib.hid hS7; clear hst7 hf7 hS7))
          have hb7 : b < w6.heap.size := Nat.lt_of_lt_of_le hbs HF6.out.size
          have HBLK7 := Lib.hid ((bfr_block HF7.out hb7 (Nat.le_refl _) hbn.1 hbn.2).trans ((HF6.out.block b hbs (by rintro (e | e); exact hbn.1 e; exact hbn.2 e)).trans HBLK.out))
          have HV7 := Lib.hid ((HVZ.out.dfr HFAR4.out hpr.1 hpr.2 HF6.out).bfr HFAR4.out hpr.1 hpr.2 HF7.out (Nat.le_refl _))
          have HI7 := Lib.hid ((HIZ.out.dfr HF6.out).bfr HF7.out (Nat.le_refl _))
          have hz7 : wr.heap.size ≤ w7.heap.size := by have := HF6.out.size; have := HF7.out.size; omega
          have hC7w : wr.heap.size ≤ C7 := by have := HF6.out.size; omega
          have hof7 := of_row HI7.out (by omega) HTK1.out
          rw [← HS.out] at hof7
          have HOF7 := Lib.hid hof7
          clear hof7 HAZ HIZ HVZ HBLK hC7
          go_upto_region 28 with (go_at_call 13; refine HOF7.out.mono ?_; rintro e w8 ⟨v8, rfl, hv8, hfar8, hb8⟩; obtain ⟨A8, c8, B8, d8, rfl, hx8⟩ := hv8.out; have HV8 := Lib.hid hv8; have HFAR8 := Lib.hid hfar8; have HB8 := Lib.hid hb8; clear hv8 hb8 hx8 hfar8)
          obtain ⟨wy, hwy⟩ : ∃ wy, wy = w8.alloc (.cells #[.string S.room, .slice A8 S.events.length c8, .int .i64 S.used, .slice B8 S.queue.length d8] 35) := ⟨_, rfl⟩
          have hby : Below w8.heap.size w8 wy := by rw [hwy]; exact ba_size _ _ _
          have hblk2 : wy.heap[w8.heap.size]? = some (.cells #[.string S.room, .slice A8 S.events.length c8, .int .i64 S.used, .slice B8 S.queue.length d8] 35) := by rw [hwy]; exact heap_alloc_new _ _
          have hbr2 := HB8.out.trans (hby.mono HB8.out.size)
          have hz8 := HB8.out.size
          have hyz := hbr2.size
          have HIY := Lib.hid (HI7.out.below hbr2)
          have HSY := Lib.hid (HST7.out.below hbr2)
          have HWY := Lib.hid (HV7.out.below hbr2)
          have HVY := Lib.hid (HV8.out.below hby)
          have HBY := Lib.hid ((hbr2.block b (Array.getElem?_eq_some_iff.1 HBLK7.out).1).trans HBLK7.out)
          obtain ⟨b2, hb2⟩ : ∃ b2, b2 = w8.heap.size := ⟨_, rfl⟩
          rw [← hb2] at hblk2 ⊢
          have HBY2 := Lib.hid hblk2
          have hb2w : wr.heap.size ≤ b2 := by omega
          rw [← hwy]
          clear hwy hby hbr2 hb2 hblk2
          obtain ⟨i0, hii0, hz0, hz1, hz2⟩ := info_parts info_str
          go_upto_region 31 with (at_builtin; refine wpList_append_strs _ rfl (.tmp 140) (.tmp 142) 22 rfl w.heap.size 9 i0 Tryd.underlying22 hii0 hz0 hz1 hz2 _ recs [und] rfl (HIY.out.row.alloc _) (some ⟨wy.heap.size, 0, none⟩) 1 rfl (one_str _ _ _) (by simp only [List.length_cons, List.length_nil]; omega) (by rw [asz]; have := HIY.out.bel.size; omega) ?_; intro v' w9 hown9 hg9 hat9; have HI9 := Lib.hid (HIY.out.push hown9 hg9 hat9); have HG9 := Lib.hid hg9; clear hown9 hg9 hat9)
          have hmv : ∀ k, wr.heap.size ≤ k → k < wy.heap.size → w9.heap[k]? = wy.heap[k]? := fun k h1 h2 => (HG9.out.block k (by rw [asz]; omega) (fun e => by have := HOWN.out k e.symm; omega)).trans (Below.heap_alloc _ _ _ h2)
          have hzy : w7.heap.size ≤ wy.heap.size := hyz
          have HSZ9 := Lib.hid (show StRep w9 C7 g7 q7 S7 from by
            obtain ⟨ev, qu, h⟩ := HSY.out
            exact ⟨ev, qu, h.move fun k h1 h2 => hmv k (by omega) h2⟩)
          have HW9 := Lib.hid (HWY.out.far HFAR4.out (fun k h1 h2 => hmv k h1 h2))
          have HV9 := Lib.hid (HVY.out.far HFAR8.out (fun k h1 h2 => hmv k (by omega) h2))
          have HB9 := Lib.hid ((hmv b hbw (Array.getElem?_eq_some_iff.1 HBY.out).1).trans HBY.out)
          have HB92 := Lib.hid ((hmv b2 hb2w (Array.getElem?_eq_some_iff.1 HBY2.out).1).trans HBY2.out)
          obtain ⟨R9, hR9⟩ : ∃ R9, R9 = recs ++ [und] := ⟨_, rfl⟩
          have hl9 : R9.length ≤ 60 := by rw [hR9]; simp; omega
          have hi9 := HI9.out
          have htk9 := HTK2.out
          have hT9 := HT.out
          rw [← hR9] at hi9 htk9 hT9
          have HT9 := Lib.hid hT9
          clear hR9 HI9 hT9
          obtain ⟨Ax, cx, rfl, hcx, _, _⟩ := own_read hi9.row (by omega)
          have hof9 := of_row hi9 (by omega) htk9
          rw [← HT9.out] at hof9
          have HI9 := Lib.hid hi9
          clear hi9 htk9
          have HOF9 := Lib.hid hof9
          clear hmv hof9 HG9 HIY HSY HWY HVY HBY HBY2
          go_upto_region 32 with (go_at_call 13; refine HOF9.out.mono ?_; rintro e w10 ⟨v10, rfl, hv10, _, hb10⟩; obtain ⟨A9, c9, B9, d9, rfl, hx10⟩ := hv10.out; have HV10 := Lib.hid hv10; have HB10 := Lib.hid hb10; clear hv10 hb10 hx10)
          obtain ⟨wx, hwx⟩ : ∃ wx, wx = w10.alloc (.cells #[.string T.room, .slice A9 T.events.length c9, .int .i64 T.used, .slice B9 T.queue.length d9] 35) := ⟨_, rfl⟩
          have hbx0 : Below w10.heap.size w10 wx := by rw [hwx]; exact ba_size _ _ _
          have hblk3 : wx.heap[w10.heap.size]? = some (.cells #[.string T.room, .slice A9 T.events.length c9, .int .i64 T.used, .slice B9 T.queue.length d9] 35) := by rw [hwx]; exact heap_alloc_new _ _
          have hbr3 := HB10.out.trans (hbx0.mono HB10.out.size)
          have HIX := Lib.hid (HI9.out.below hbr3)
          have HSX := Lib.hid (HSZ9.out.below hbr3)
          have HWX := Lib.hid (HW9.out.below hbr3)
          have HVX := Lib.hid (HV9.out.below hbr3)
          have HUX := Lib.hid (HV10.out.below hbx0)
          obtain ⟨e0, e1, e2, e3, _⟩ := box4f ((hbr3.block b (Array.getElem?_eq_some_iff.1 HB9.out).1).trans HB9.out)
          obtain ⟨f0, f1, f2, f3, _⟩ := box4f ((hbr3.block b2 (Array.getElem?_eq_some_iff.1 HB92.out).1).trans HB92.out)
          obtain ⟨b3, hb3⟩ : ∃ b3, b3 = w10.heap.size := ⟨_, rfl⟩
          rw [← hb3] at hblk3 ⊢
          obtain ⟨g0, g1, g2, g3, _⟩ := box4f hblk3
          rw [← hwx]
          clear hwx hbx0 hbr3 hb3 hblk3
          have hbx := (Below.refl wx.heap.size wx).drew
          have x0 : wx.drew.cell? ⟨b, 0, none⟩ = some (.string S.room) := e0
          have x1 : wx.drew.cell? ⟨b, 1, none⟩ = some (.slice A4 S.events.length c4) := e1
          have x2 : wx.drew.cell? ⟨b, 2, none⟩ = some (.int .i64 S.used) := e2
          have x3 : wx.drew.cell? ⟨b, 3, none⟩ = some (.slice B4 S.queue.length d4) := e3
          have y0 : wx.drew.cell? ⟨b2, 0, none⟩ = some (.string S.room) := f0
          have y1 : wx.drew.cell? ⟨b2, 1, none⟩ = some (.slice A8 S.events.length c8) := f1
          have y2 : wx.drew.cell? ⟨b2, 2, none⟩ = some (.int .i64 S.used) := f2
          have y3 : wx.drew.cell? ⟨b2, 3, none⟩ = some (.slice B8 S.queue.length d8) := f3
          have z0 : wx.drew.cell? ⟨b3, 0, none⟩ = some (.string T.room) := g0
          have z1 : wx.drew.cell? ⟨b3, 1, none⟩ = some (.slice A9 T.events.length c9) := g1
          have z2 : wx.drew.cell? ⟨b3, 2, none⟩ = some (.int .i64 T.used) := g2
          have z3 : wx.drew.cell? ⟨b3, 3, none⟩ = some (.slice B9 T.queue.length d9) := g3
          have HT1 := Lib.hid (fun (P : Prop) (h : P) => h)
          have HT2 := Lib.hid (fun (P : Prop) (h : P) => h)
          have hl7 : S7.events.length ≤ 1000000 ∧ S7.queue.length ≤ 1000000 := by
            rcases HS7.out with hE | hE
            · rw [hE]; omega
            · rw [hE]; omega
          cases hbeta : sameB S7 S with
          | true =>
            have HBT := Lib.hid hbeta
            clear hbeta
            refine wp_region_held_drew (S := (fun x => x.cell? ⟨b, 0, none⟩ = some (.string S.room) ∧ x.cell? ⟨b, 1, none⟩ = some (.slice A4 S.events.length c4) ∧ x.cell? ⟨b, 2, none⟩ = some (.int .i64 S.used) ∧ x.cell? ⟨b, 3, none⟩ = some (.slice B4 S.queue.length d4) ∧ x.cell? ⟨b2, 0, none⟩ = some (.string S.room) ∧ x.cell? ⟨b2, 1, none⟩ = some (.slice A8 S.events.length c8) ∧ x.cell? ⟨b2, 2, none⟩ = some (.int .i64 S.used) ∧ x.cell? ⟨b2, 3, none⟩ = some (.slice B8 S.queue.length d8) ∧ x.cell? ⟨b3, 0, none⟩ = some (.string T.room) ∧ x.cell? ⟨b3, 1, none⟩ = some (.slice A9 T.events.length c9) ∧ x.cell? ⟨b3, 2, none⟩ = some (.int .i64 T.used) ∧ x.cell? ⟨b3, 3, none⟩ = some (.slice B9 T.queue.length d9) ∧ Below wx.heap.size wx x)) (by kernel_rfl) ?_ (fun hHeld => ?_)
            · ((try dsimp only); (refine ⟨?_, ?_, ?_, ?_, ?_, ?_, ?_, ?_, ?_, ?_, ?_, ?_, ?_⟩ <;> assumption))
            refine wpAnyH_take (i := 0) (v := ?_) rfl (by kernel_rfl) (by kernel_rfl) (by kernel_rfl) (fun _ _ _ h => h) (Or.inl ⟨by rfl, ?_⟩) (by assumption) ?_
            rotate_left
            · (intro w hSw; (try dsimp only at hSw); (try simp only [List.getElem_toArray, List.getElem_cons_zero, List.getElem_cons_succ]); go_simp <;> with_reducible rfl)
            (try simp only [Act.put, List.getElem_toArray, List.getElem_cons_zero, List.getElem_cons_succ, List.setIfInBounds_toArray, List.set_cons_zero, List.set_cons_succ])
            refine wpAnyH_take (i := 1) (v := ?_) rfl (by kernel_rfl) (by kernel_rfl) (by kernel_rfl) (fun _ _ _ h => h) (Or.inl ⟨by rfl, ?_⟩) (by assumption) ?_
            rotate_left
            · (intro w hSw; (try dsimp only at hSw); (try simp only [List.getElem_toArray, List.getElem_cons_zero, List.getElem_cons_succ]); go_simp <;> with_reducible rfl)
            (try simp only [Act.put, List.getElem_toArray, List.getElem_cons_zero, List.getElem_cons_succ, List.setIfInBounds_toArray, List.set_cons_zero, List.set_cons_succ])
            refine wpAnyH_take (i := 2) (v := ?_) rfl (by kernel_rfl) (by kernel_rfl) (by kernel_rfl) (fun _ _ _ h => h) (Or.inl ⟨by rfl, ?_⟩) (by assumption) ?_
            rotate_left
            · (intro w hSw; (try dsimp only at hSw); (try simp only [List.getElem_toArray, List.getElem_cons_zero, List.getElem_cons_succ]); go_simp <;> with_reducible rfl)
            (try simp only [Act.put, List.getElem_toArray, List.getElem_cons_zero, List.getElem_cons_succ, List.setIfInBounds_toArray, List.set_cons_zero, List.set_cons_succ])
            refine wpAnyH_take (i := 3) (v := ?_) rfl (by kernel_rfl) (by kernel_rfl) (by kernel_rfl) (fun _ _ _ h => h) (Or.inl ⟨by rfl, ?_⟩) (by assumption) ?_
            rotate_left
            · (intro w hSw; (try dsimp only at hSw); (try simp only [List.getElem_toArray, List.getElem_cons_zero, List.getElem_cons_succ]); go_simp <;> with_reducible rfl)
            (try simp only [Act.put, List.getElem_toArray, List.getElem_cons_zero, List.getElem_cons_succ, List.setIfInBounds_toArray, List.set_cons_zero, List.set_cons_succ])
            refine wpAnyH_ready (rs := [4]) (by kernel_rfl) (by simp) ?_
            refine AllReadyH.cons rfl (fun K hK => ?_) AllReadyH.nil
            (try simp only [List.getElem_toArray, List.getElem_cons_zero, List.getElem_cons_succ])
            rw [if_pos (by rfl)]
            go_simp
            (go_at_call 14; refine (same2 (HWX.out.below ?_) (HVX.out.below ?_) (sameB_self S)).mono ?_; assumption; assumption; rintro e wd ⟨rfl, hbd⟩; obtain ⟨_, _, _, _, _⟩ := keep4B (g := b) (by assumption) (by assumption) (by assumption) (by assumption) (by assumption) hbd; obtain ⟨_, _, _, _, _⟩ := keep4B (g := b2) (by assumption) (by assumption) (by assumption) (by assumption) (by assumption) hbd; obtain ⟨_, _, _, _, hxd⟩ := keep4B (g := b3) (by assumption) (by assumption) (by assumption) (by assumption) (by assumption) hbd)
            refine hK.out _ _ ?_ (fun hHeld => ?_)
            · ((try dsimp only); (refine ⟨?_, ?_, ?_, ?_, ?_, ?_, ?_, ?_, ?_, ?_, ?_, ?_, ?_⟩ <;> assumption))
            clear hK K
            (try simp only [Act.put, List.getElem_toArray, List.getElem_cons_zero, List.getElem_cons_succ, List.setIfInBounds_toArray, List.set_cons_zero, List.set_cons_succ])
            refine wpAnyH_take (i := 5) (v := ?_) rfl (by kernel_rfl) (by kernel_rfl) (by kernel_rfl) (fun _ _ _ h => h) (Or.inl ⟨by rfl, ?_⟩) (by assumption) ?_
            rotate_left
            · (intro w hSw; (try dsimp only at hSw); (try simp only [List.getElem_toArray, List.getElem_cons_zero, List.getElem_cons_succ]); go_simp <;> with_reducible rfl)
            (try simp only [Act.put, List.getElem_toArray, List.getElem_cons_zero, List.getElem_cons_succ, List.setIfInBounds_toArray, List.set_cons_zero, List.set_cons_succ])
            refine wpAnyH_take (i := 6) (v := ?_) rfl (by kernel_rfl) (by kernel_rfl) (by kernel_rfl) (fun _ _ _ h => h) (Or.inl ⟨by rfl, ?_⟩) (by assumption) ?_
            rotate_left
            · (intro w hSw; (try dsimp only at hSw); (try simp only [List.getElem_toArray, List.getElem_cons_zero, List.getElem_cons_succ]); go_simp <;> with_reducible rfl)
            (try simp only [Act.put, List.getElem_toArray, List.getElem_cons_zero, List.getElem_cons_succ, List.setIfInBounds_toArray, List.set_cons_zero, List.set_cons_succ])
            refine wpAnyH_take (i := 7) (v := ?_) rfl (by kernel_rfl) (by kernel_rfl) (by kernel_rfl) (fun _ _ _ h => h) (Or.inl ⟨by rfl, ?_⟩) (by assumption) ?_
            rotate_left
            · (intro w hSw; (try dsimp only at hSw); (try simp only [List.getElem_toArray, List.getElem_cons_zero, List.getElem_cons_succ]); go_simp <;> with_reducible rfl)
            (try simp only [Act.put, List.getElem_toArray, List.getElem_cons_zero, List.getElem_cons_succ, List.setIfInBounds_toArray, List.set_cons_zero, List.set_cons_succ])
            refine wpAnyH_take (i := 10) (v := ?_) rfl (by kernel_rfl) (by kernel_rfl) (by kernel_rfl) (fun _ _ _ h => h) (Or.inl ⟨by rfl, ?_⟩) (by assumption) ?_
            rotate_left
            · (intro w hSw; (try dsimp only at hSw); (try simp only [List.getElem_toArray, List.getElem_cons_zero, List.getElem_cons_succ]); go_simp <;> with_reducible rfl)
            (try simp only [Act.put, List.getElem_toArray, List.getElem_cons_zero, List.getElem_cons_succ, List.setIfInBounds_toArray, List.set_cons_zero, List.set_cons_succ])
            refine wpAnyH_ready (rs := [8]) (by kernel_rfl) (by simp) ?_
            refine AllReadyH.cons rfl (fun K hK => ?_) AllReadyH.nil
            (try simp only [List.getElem_toArray, List.getElem_cons_zero, List.getElem_cons_succ])
            rw [if_pos (by rfl)]
            go_simp
            (go_at_call 16; refine (state_own (HSX.out.below ?_) hl7).mono ?_; assumption; rintro e wa ⟨va, rfl, hva, _, hba⟩; obtain ⟨_, _, _, _, _⟩ := keep4B (g := b) (by assumption) (by assumption) (by assumption) (by assumption) (by assumption) hba; obtain ⟨_, _, _, _, _⟩ := keep4B (g := b2) (by assumption) (by assumption) (by assumption) (by assumption) (by assumption) hba; obtain ⟨_, _, _, _, hxa⟩ := keep4B (g := b3) (by assumption) (by assumption) (by assumption) (by assumption) (by assumption) hba)
            refine hK.out _ _ ?_ (fun hHeld => ?_)
            · ((try dsimp only); (refine ⟨?_, ?_, ?_, ?_, ?_, ?_, ?_, ?_, ?_, ?_, ?_, ?_, ?_⟩ <;> assumption))
            clear hK K
            (try simp only [Act.put, List.getElem_toArray, List.getElem_cons_zero, List.getElem_cons_succ, List.setIfInBounds_toArray, List.set_cons_zero, List.set_cons_succ])
            refine wpAnyH_ready (rs := [9]) (by kernel_rfl) (by simp) ?_
            refine AllReadyH.cons rfl (fun K hK => ?_) AllReadyH.nil
            (try simp only [List.getElem_toArray, List.getElem_cons_zero, List.getElem_cons_succ])
            rw [if_pos (by rfl)]
            go_simp
            (go_at_call 15; refine (as_any hva).mono ?_; rintro e wb ⟨rfl, hbb⟩; have hvb := hva.below hbb; clear hva; obtain ⟨_, _, _, _, _⟩ := keep4B (g := b) (by assumption) (by assumption) (by assumption) (by assumption) (by assumption) hbb; obtain ⟨_, _, _, _, _⟩ := keep4B (g := b2) (by assumption) (by assumption) (by assumption) (by assumption) (by assumption) hbb; obtain ⟨_, _, _, _, hxb⟩ := keep4B (g := b3) (by assumption) (by assumption) (by assumption) (by assumption) (by assumption) hbb)
            refine hK.out _ _ ?_ (fun hHeld => ?_)
            · ((try dsimp only); (refine ⟨?_, ?_, ?_, ?_, ?_, ?_, ?_, ?_, ?_, ?_, ?_, ?_, ?_⟩ <;> assumption))
            clear hK K
            (try simp only [Act.put, List.getElem_toArray, List.getElem_cons_zero, List.getElem_cons_succ, List.setIfInBounds_toArray, List.set_cons_zero, List.set_cons_succ])
            refine wpAnyH_ready (rs := [11]) (by kernel_rfl) (by simp) ?_
            refine AllReadyH.cons rfl (fun K hK => ?_) AllReadyH.nil
            (try simp only [List.getElem_toArray, List.getElem_cons_zero, List.getElem_cons_succ])
            rw [if_pos (by rfl)]
            go_simp
            (go_at_call 14; refine (same2 hvb (HVX.out.below ?_) HBT.out).mono ?_; assumption; rintro e wc ⟨rfl, hbc⟩; obtain ⟨_, _, _, _, _⟩ := keep4B (g := b) (by assumption) (by assumption) (by assumption) (by assumption) (by assumption) hbc; obtain ⟨_, _, _, _, _⟩ := keep4B (g := b2) (by assumption) (by assumption) (by assumption) (by assumption) (by assumption) hbc; obtain ⟨_, _, _, _, hxc⟩ := keep4B (g := b3) (by assumption) (by assumption) (by assumption) (by assumption) (by assumption) hbc)
            refine hK.out _ _ ?_ (fun hHeld => ?_)
            · ((try dsimp only); (refine ⟨?_, ?_, ?_, ?_, ?_, ?_, ?_, ?_, ?_, ?_, ?_, ?_, ?_⟩ <;> assumption))
            clear hK K
            (try simp only [Act.put, List.getElem_toArray, List.getElem_cons_zero, List.getElem_cons_succ, List.setIfInBounds_toArray, List.set_cons_zero, List.set_cons_succ])
            refine wpAnyH_take (i := 12) (v := ?_) rfl (by kernel_rfl) (by kernel_rfl) (by kernel_rfl) (fun _ _ _ h => h) (Or.inl ⟨by rfl, ?_⟩) (by assumption) ?_
            rotate_left
            · (intro w hSw; (try dsimp only at hSw); (try simp only [List.getElem_toArray, List.getElem_cons_zero, List.getElem_cons_succ]); go_simp <;> with_reducible rfl)
            (try simp only [Act.put, List.getElem_toArray, List.getElem_cons_zero, List.getElem_cons_succ, List.setIfInBounds_toArray, List.set_cons_zero, List.set_cons_succ])
            refine wpAnyH_take (i := 13) (v := undef) rfl (by kernel_rfl) (by kernel_rfl) (by kernel_rfl) (fun _ _ _ h => h) (Or.inr ⟨by rfl, rfl⟩) (by assumption) ?_
            (try simp only [Act.put, List.getElem_toArray, List.getElem_cons_zero, List.getElem_cons_succ, List.setIfInBounds_toArray, List.set_cons_zero, List.set_cons_succ])
            refine wpAnyH_take (i := 16) (v := undef) rfl (by kernel_rfl) (by kernel_rfl) (by kernel_rfl) (fun _ _ _ h => h) (Or.inr ⟨by rfl, rfl⟩) (by assumption) ?_
            (try simp only [Act.put, List.getElem_toArray, List.getElem_cons_zero, List.getElem_cons_succ, List.setIfInBounds_toArray, List.set_cons_zero, List.set_cons_succ])
            refine wpAnyH_ready (rs := [14]) (by kernel_rfl) (by simp) ?_
            refine AllReadyH.cons rfl (fun K hK => ?_) AllReadyH.nil
            (try simp only [List.getElem_toArray, List.getElem_cons_zero, List.getElem_cons_succ])
            rw [if_neg (by exact fun h => Bool.false_ne_true h)]
            refine hK.out _ _ ?_ (fun hHeld => ?_)
            · ((try dsimp only); (refine ⟨?_, ?_, ?_, ?_, ?_, ?_, ?_, ?_, ?_, ?_, ?_, ?_, ?_⟩ <;> assumption))
            clear hK K
            (try simp only [Act.put, List.getElem_toArray, List.getElem_cons_zero, List.getElem_cons_succ, List.setIfInBounds_toArray, List.set_cons_zero, List.set_cons_succ])
            refine wpAnyH_ready (rs := [15]) (by kernel_rfl) (by simp) ?_
            refine AllReadyH.cons rfl (fun K hK => ?_) AllReadyH.nil
            (try simp only [List.getElem_toArray, List.getElem_cons_zero, List.getElem_cons_succ])
            rw [if_neg (by exact fun h => Bool.false_ne_true h)]
            refine hK.out _ _ ?_ (fun hHeld => ?_)
            · ((try dsimp only); (refine ⟨?_, ?_, ?_, ?_, ?_, ?_, ?_, ?_, ?_, ?_, ?_, ?_, ?_⟩ <;> assumption))
            clear hK K
            (try simp only [Act.put, List.getElem_toArray, List.getElem_cons_zero, List.getElem_cons_succ, List.setIfInBounds_toArray, List.set_cons_zero, List.set_cons_succ])
            refine wpAnyH_ready (rs := [17]) (by kernel_rfl) (by simp) ?_
            refine AllReadyH.cons rfl (fun K hK => ?_) AllReadyH.nil
            (try simp only [List.getElem_toArray, List.getElem_cons_zero, List.getElem_cons_succ])
            rw [if_neg (by exact fun h => Bool.false_ne_true h)]
            refine hK.out _ _ ?_ (fun hHeld => ?_)
            · ((try dsimp only); (refine ⟨?_, ?_, ?_, ?_, ?_, ?_, ?_, ?_, ?_, ?_, ?_, ?_, ?_⟩ <;> assumption))
            clear hK K
            (try simp only [Act.put, List.getElem_toArray, List.getElem_cons_zero, List.getElem_cons_succ, List.setIfInBounds_toArray, List.set_cons_zero, List.set_cons_succ])
            refine wpAnyH_take (i := 18) (v := ?_) rfl (by kernel_rfl) (by kernel_rfl) (by kernel_rfl) (fun _ _ _ h => h) (Or.inl ⟨by rfl, ?_⟩) (by assumption) ?_
            rotate_left
            · (intro w hSw; (try dsimp only at hSw); (try simp only [List.getElem_toArray, List.getElem_cons_zero, List.getElem_cons_succ]); go_simp <;> with_reducible rfl)
            (try simp only [Act.put, List.getElem_toArray, List.getElem_cons_zero, List.getElem_cons_succ, List.setIfInBounds_toArray, List.set_cons_zero, List.set_cons_succ])
            refine wpAnyH_take (i := 19) (v := ?_) rfl (by kernel_rfl) (by kernel_rfl) (by kernel_rfl) (fun _ _ _ h => h) (Or.inl ⟨by rfl, ?_⟩) (by assumption) ?_
            rotate_left
            · (intro w hSw; (try dsimp only at hSw); (try simp only [List.getElem_toArray, List.getElem_cons_zero, List.getElem_cons_succ]); go_simp <;> with_reducible rfl)
            (try simp only [Act.put, List.getElem_toArray, List.getElem_cons_zero, List.getElem_cons_succ, List.setIfInBounds_toArray, List.set_cons_zero, List.set_cons_succ])
            refine wpAnyH_take (i := 20) (v := ?_) rfl (by kernel_rfl) (by kernel_rfl) (by kernel_rfl) (fun _ _ _ h => h) (Or.inl ⟨by rfl, ?_⟩) (by assumption) ?_
            rotate_left
            · (intro w hSw; (try dsimp only at hSw); (try simp only [List.getElem_toArray, List.getElem_cons_zero, List.getElem_cons_succ]); go_simp <;> with_reducible rfl)
            (try simp only [Act.put, List.getElem_toArray, List.getElem_cons_zero, List.getElem_cons_succ, List.setIfInBounds_toArray, List.set_cons_zero, List.set_cons_succ])
            refine wpAnyH_done (by kernel_rfl) ?_ _
            go_wp2_with fail
            go_ret
            exact ⟨rfl, HIX.out.bel.trans (hxc.mono HIX.out.bel.size)⟩
          | false =>
            have HGM := Lib.hid (show sameB S7 T = true from by
              rcases HS7.out with hE | hE
              · rw [hE, sameB_self] at hbeta
                cases hbeta
              · rw [hE]
                exact sameB_self T)
            have HBT := Lib.hid hbeta
            clear hbeta
            first | (go_region_held3 (fun x => x.cell? ⟨b, 0, none⟩ = some (.string S.room) ∧ x.cell? ⟨b, 1, none⟩ = some (.slice A4 S.events.length c4) ∧ x.cell? ⟨b, 2, none⟩ = some (.int .i64 S.used) ∧ x.cell? ⟨b, 3, none⟩ = some (.slice B4 S.queue.length d4) ∧ x.cell? ⟨b2, 0, none⟩ = some (.string S.room) ∧ x.cell? ⟨b2, 1, none⟩ = some (.slice A8 S.events.length c8) ∧ x.cell? ⟨b2, 2, none⟩ = some (.int .i64 S.used) ∧ x.cell? ⟨b2, 3, none⟩ = some (.slice B8 S.queue.length d8) ∧ x.cell? ⟨b3, 0, none⟩ = some (.string T.room) ∧ x.cell? ⟨b3, 1, none⟩ = some (.slice A9 T.events.length c9) ∧ x.cell? ⟨b3, 2, none⟩ = some (.int .i64 T.used) ∧ x.cell? ⟨b3, 3, none⟩ = some (.slice B9 T.queue.length d9) ∧ Below wx.heap.size wx x) (first | (refine ⟨?_, ?_, ?_, ?_, ?_, ?_, ?_, ?_, ?_, ?_, ?_, ?_, ?_⟩ <;> assumption) | go_keep)
              (first
                | (go_at_call 14; refine (HT1.out _ (same2 (HWX.out.below ?_) (HVX.out.below ?_) (sameB_self S))).mono ?_; assumption; assumption; rintro e wd ⟨rfl, hbd⟩; clear HT1; obtain ⟨_, _, _, _, _⟩ := keep4B (g := b) (by assumption) (by assumption) (by assumption) (by assumption) (by assumption) hbd; obtain ⟨_, _, _, _, _⟩ := keep4B (g := b2) (by assumption) (by assumption) (by assumption) (by assumption) (by assumption) hbd; obtain ⟨_, _, _, _, hxd⟩ := keep4B (g := b3) (by assumption) (by assumption) (by assumption) (by assumption) (by assumption) hbd)
                | (go_at_call 16; refine (state_own (HSX.out.below ?_) hl7).mono ?_; assumption; rintro e wa ⟨va, rfl, hva, _, hba⟩; obtain ⟨_, _, _, _, _⟩ := keep4B (g := b) (by assumption) (by assumption) (by assumption) (by assumption) (by assumption) hba; obtain ⟨_, _, _, _, _⟩ := keep4B (g := b2) (by assumption) (by assumption) (by assumption) (by assumption) (by assumption) hba; obtain ⟨_, _, _, _, hxa⟩ := keep4B (g := b3) (by assumption) (by assumption) (by assumption) (by assumption) (by assumption) hba)
                | (go_at_call 15; refine (as_any hva).mono ?_; rintro e wb ⟨rfl, hbb⟩; have hvb := hva.below hbb; clear hva; obtain ⟨_, _, _, _, _⟩ := keep4B (g := b) (by assumption) (by assumption) (by assumption) (by assumption) (by assumption) hbb; obtain ⟨_, _, _, _, _⟩ := keep4B (g := b2) (by assumption) (by assumption) (by assumption) (by assumption) (by assumption) hbb; obtain ⟨_, _, _, _, hxb⟩ := keep4B (g := b3) (by assumption) (by assumption) (by assumption) (by assumption) (by assumption) hbb)
                | (go_at_call 14; refine (HT2.out _ (same2 hvb (HVX.out.below ?_) HBT.out)).mono ?_; assumption; rintro e wc ⟨rfl, hbc⟩; clear hvb HT2; obtain ⟨_, _, _, _, _⟩ := keep4B (g := b) (by assumption) (by assumption) (by assumption) (by assumption) (by assumption) hbc; obtain ⟨_, _, _, _, _⟩ := keep4B (g := b2) (by assumption) (by assumption) (by assumption) (by assumption) (by assumption) hbc; obtain ⟨_, _, _, _, hxc⟩ := keep4B (g := b3) (by assumption) (by assumption) (by assumption) (by assumption) (by assumption) hbc)
                | (go_at_call 14; refine (same2 hvb (HUX.out.below ?_) HGM.out).mono ?_; assumption; rintro e we ⟨rfl, hbe⟩; clear hvb; obtain ⟨_, _, _, _, _⟩ := keep4B (g := b) (by assumption) (by assumption) (by assumption) (by assumption) (by assumption) hbe; obtain ⟨_, _, _, _, _⟩ := keep4B (g := b2) (by assumption) (by assumption) (by assumption) (by assumption) (by assumption) hbe; obtain ⟨_, _, _, _, hxe⟩ := keep4B (g := b3) (by assumption) (by assumption) (by assumption) (by assumption) (by assumption) hbe))) | fail
            go_wp2_with fail
            go_ret
            exact ⟨rfl, HIX.out.bel.trans (hxe.mono HIX.out.bel.size)⟩

end Go.Proofs.YtdogmcpmlglkfaaDoor

namespace Go.Proofs.YtdogmcpmlglkfaaDoor
open Go.ChangeShapes Go.WideShapes Go.ChangeAt Go.RowKit Go.Proofs.YtdogmcpmlglkfaaDoorW.PrintWords Go.Proofs.YtdogmcpmlglkfaaDoor.PRef

set_option maxRecDepth 100000 in
theorem storeCrashes_lifted (os : Os) (started : os.Started) (H : Type) (enc : TypeId × Value → H) :
    ReturnsInHanded {} Tryd.checked os 7 .any (fun w args => (Rows.storeCrashesSpec.pre enc Tryd.prog Tryd.f7 [] false w args ∧ laidMetH Tryd.prog laid3 w) ∧ sizedMet enc Tryd.prog Tryd.f7 (OpenSpec.ofChange Rows.storeCrashesSpec) false w args)
      (Rows.storeCrashesSpec.post enc Tryd.prog Tryd.f7 false true false false) := by
  refine returnsInHanded_of_change_and (C := Tryd.checked) (X := fun w _ => laidMetH Tryd.prog laid3 w) (fun _ _ _ hh h => h.of_heap hh) own0 started (by kernel_rfl) Tryd.func7
    (ChangeSpec.witness_shaped (enc := enc) (C := Tryd.checked) (os := os) (X := fun w _ => laidMetH Tryd.prog laid3 w) false (World.doorLaid Tryd.prog 24 os) #[.slice none 0 0, .int .i64 0, .slice none 0 0] 8 rfl (World.shaped_of_RefB (by kernel_rfl) (by kernel_rfl)) (by kernel_rfl) (by kernel_rfl) (by kernel_rfl) (door_met os _)) ?_
  intro W base args ds gs before hval0 hW _ _ _ _
  have hval : ∀ (j : Nat) t v, Tryd.f7.params[j]? = some t → args[j]? = some v → Value.okWide Tryd.prog W .any base t v := hval0
  have hW' := hW
  obtain ⟨p, q, hA0, hV, rfl, hfz, hnd⟩ := hW
  have hA : DataW.TrodAll enc Tryd.prog W 0 (fun _ => true) true Tryd.f7.params.toList args.toList ds p := hA0
  rw [Tryd.params7] at hA hval
  obtain ⟨v0, vs0, d0, ds0, p0, q0, hargs, rfl, rfl, h0, r0⟩ := trodAll_cons hA
  obtain ⟨v1, vs1, d1, ds1, p1, q1, rfl, rfl, rfl, h1, r1⟩ := trodAll_cons r0
  obtain ⟨v2, vs2, d2, ds2, p2, q2, rfl, rfl, rfl, h2, r2⟩ := trodAll_cons r1
  obtain ⟨rfl, rfl, rfl⟩ := trodAll_nil r2
  obtain rfl : args = #[v0, v1, v2] := by cases args; simp_all
  obtain ⟨rfl, rfl⟩ := trodVars_none hV
  obtain ⟨A0, n0, c0, rfl⟩ := okWide_slice Tryd.underlying43 (hval 0 43 v0 rfl rfl)
  obtain ⟨a1, rfl⟩ := okWide_int Tryd.underlying3 (hval 1 3 v1 rfl rfl)
  obtain ⟨A2, n2, c2, rfl⟩ := okWide_slice Tryd.underlying51 (hval 2 51 v2 rfl rfl)
  have k0 := h0
  have k1 := h1
  have k2 := h2
  have lt0 : ∀ x ∈ p0, x.block < W.heap.size := by obtain ⟨m, hm⟩ := k0; exact DataW.trod_lt m _ _ _ hm
  have lt1 : ∀ x ∈ p1, x.block < W.heap.size := by obtain ⟨m, hm⟩ := k1; exact DataW.trod_lt m _ _ _ hm
  have lt2 : ∀ x ∈ p2, x.block < W.heap.size := by obtain ⟨m, hm⟩ := k2; exact DataW.trod_lt m _ _ _ hm
  obtain ⟨m0, hm0⟩ := h0
  obtain ⟨x0, hy0, hz0⟩ := Opens.slice Tryd.underlying43 (by kernel_rfl) (act11_opens enc W _ _) m0 _ _ hm0
  obtain ⟨B0, e0, E0, l0, g0⟩ := hy0
  cases E0
  have hh0 := hz0.2
  obtain ⟨m1, hm1⟩ := h1
  obtain ⟨n1, e1, w1⟩ := Opens.int Tryd.underlying3 m1 _ _ hm1
  cases e1
  have b1 := i64_range w1
  obtain ⟨m2, hm2⟩ := h2
  obtain ⟨x2, hy2, hz2⟩ := Opens.slice Tryd.underlying51 (by kernel_rfl) (Opens.int Tryd.underlying3) m2 _ _ hm2
  obtain ⟨B2, e2, E2, l2, g2⟩ := hy2
  cases E2
  have hh2 := hz2.2
  clear hA0 hval0
  refine (scrash_walk A0 c0 x0 _ A2 c2 x2 W l0 g0 l2 g2).mono fun e W' ⟨he, bel⟩ => ?_
  subst he
  exact ⟨_, rfl, _, _, _, [], _, [], hW', trodAll_mk1 (shut_bool Tryd.underlying4 _), (trodAll_cons_mk (Below.trod laid (by kernel_rfl) (of_decide_eq_true (by kernel_rfl)) k0 bel lt0) (trodAll_cons_mk (Below.trod laid (by kernel_rfl) (of_decide_eq_true (by kernel_rfl)) k1 bel lt1) (trodAll_cons_mk (Below.trod laid (by kernel_rfl) (of_decide_eq_true (by kernel_rfl)) k2 bel lt2) trodAll_mk0))), rfl, bel.frame _, fun h => by cases h⟩

theorem storeCrashes_over : Rows.storeCrashesRow.holds Tryd.pinned (OpenSpec.ofChange Rows.storeCrashesSpec) :=
  OpenClaim.holds_of_wide 7 Tryd.f7 rfl rfl rfl rfl rfl rfl rfl ⟨rfl, rfl, rfl, rfl, rfl⟩ rfl rfl rfl rfl rfl (by kernel_rfl) Tryd.func7 (by kernel_rfl)
    (of_decide_eq_true (by kernel_rfl)) (by unfold Func.isWrapper; first | (rw [if_pos (by decide +kernel)]; kernel_rfl) | (rw [if_neg (by decide +kernel)]; exact ⟨rfl, rfl⟩))
    (fun os started H enc _ => storeCrashes_lifted os started H enc)

/-- The tied card. -/
theorem storeCrashes_holds : Rows.StoreCrashesCardSaid :=
  Claim7.holds_tied_plain_at .later [] [.data, .data, .data] true (true, "a5c72920e2d8d871e44f861bacea2d9b9941351a971a0a9d7a99f6218acb976c") false
    storeCrashes_over (fun _ h => by cases h) (by kernel_rfl) (fun _ h => by cases h) storeCrashes_row_tie rfl ⟨rfl, rfl⟩ (by kernel_rfl) rfl
    (fun f fn hf hfn => by
      obtain rfl : f = 7 := Option.some.inj ((show Tryd.prog.funcNamed "palaver/palaverlaw11.StoreCrashes" = some 7 by kernel_rfl).symm.trans hf) |>.symm
      obtain rfl : fn = Tryd.f7 := (Option.some.inj (Tryd.func7.symm.trans hfn)).symm
      exact ⟨by kernel_rfl, fun j t ht => by
        rw [Tryd.params7] at ht
        have hm : t ∈ [43, 3, 51] := by simpa using Array.mem_of_getElem? ht
        have hall : ([43, 3, 51].all fun u => !Tryd.prog.wantsStandIn u) = true := by kernel_rfl
        exact (show Tryd.prog.wantsStandIn t = false by simpa using List.all_eq_true.1 hall t hm)⟩)
    (by kernel_rfl)
#print axioms storeCrashes_holds

end Go.Proofs.YtdogmcpmlglkfaaDoor
