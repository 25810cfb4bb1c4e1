/- WaitLeaves: the walk of the law. -/
import Derived.Test.YtaecjkffemmpcaaLv0
import Derived.StillTailTactics
namespace Go.Proofs.Ytaecjkffemmpcaa
open Go.RowKit Go.Proofs.YtaecjkffemmpcaaW.PrintWords Go.Proofs.Ytaecjkffemmpcaa.PRef

/-- An act's cells. -/
theorem act_at {w : World} {A : Option Addr} {n : Nat} {l : List ActS} (h : Kd.C k32 w A n l) {i : Nat} (hi : i < l.length) : ∃ ad A3 c3, A = some ad ∧ (ad.add (i * 4)).block < w.heap.size ∧
    w.cell? ⟨(ad.add (i * 4)).block, (ad.add (i * 4)).off + 1, none⟩ = some (.string l[i].f1) ∧ w.cell? ⟨(ad.add (i * 4)).block, (ad.add (i * 4)).off + 2, none⟩ = some (.string l[i].f2) ∧
    w.cell? ⟨(ad.add (i * 4)).block, (ad.add (i * 4)).off + 3, none⟩ = some (.slice A3 l[i].f3.length c3) ∧ w.cell? (ad.add (i * 4)) = some (.int .i64 l[i].f0) ∧ l[i].f3.length ≤ c3 ∧ Kd.C Kd.string w A3 l[i].f3.length l[i].f3 := by
  have hn := h.1
  obtain ⟨ad, A3, c3, e, h0, h1, h2, h3, h4, h5⟩ := at_T32 h (i : Int) (by omega) (by omega)
  rw [rdT_at hi] at *
  simp only [Int.toNat_natCast] at *
  exact ⟨ad, A3, c3, e, World.block_lt_of_cell? _ _ h0, h1, h2, h3, h0, h4, h5⟩

theorem WRep.fresh {w w' : World} {B p : Nat} {places : Int} {l : List WItem} (h : WRep w' (fun b => (B ≤ b ∧ b < w.heap.size) ∨ (w.heap.size ≤ b ∧ b < w'.heap.size)) p places l) (hB : B ≤ w.heap.size) (hs : w.heap.size ≤ w'.heap.size) : WRep w' (fun b => B ≤ b ∧ b < w'.heap.size) p places l :=
  h.move_F fun b hb => by rcases hb with ⟨h1, h2⟩ | ⟨h1, h2⟩ <;> omega

theorem info_str : (Try.prog.info? 9).map (fun i => (i.zero, i.size, i.bytes)) = some (some (.string ⟨#[]⟩), 1, 16) := by kernel_rfl

def lenV : Value → Nat
  | .slice _ n _ => n
  | _ => 0

theorem at_i64 {w : World} {A : Option Addr} {n : Nat} {xs : List Int} (h : Kd.C (Kd.int .i64) w A n xs) {i : Nat} (hi : i < xs.length) : ∃ ad, A = some ad ∧ w.cell? (ad.add i) = some (.int .i64 xs[i]) := by
  have hn := h.1
  obtain ⟨ad, e, hc⟩ := Kd.at_int h (i : Int) (by omega) (by omega)
  refine ⟨ad, e, ?_⟩
  rw [Int.toNat_natCast] at hc
  rw [hc]
  simp [rd, rdOf, List.getD_eq_getElem?_getD, List.getElem?_eq_getElem hi]

theorem at_rem (x : Int) {n : Nat} (h0 : 0 < n) (hn : n ≤ 3600) : 0 ≤ wrap64 ((IntKind.u64.wrap x).tmod (n : Int)) ∧ wrap64 ((IntKind.u64.wrap x).tmod (n : Int)) < (n : Int) := by
  have h1 : 0 ≤ IntKind.u64.wrap x := Int.emod_nonneg _ (by decide)
  have h2 := Int.tmod_nonneg (n : Int) h1
  have h3 := Int.tmod_lt_of_pos (IntKind.u64.wrap x) (b := (n : Int)) (by omega)
  have : wrap64 ((IntKind.u64.wrap x).tmod (n : Int)) = (IntKind.u64.wrap x).tmod (n : Int) := by unfold wrap64; omega
  rw [this]
  exact ⟨h2, h3⟩

/-- What holds between two comings. -/
def LvRel (w wo wr : World) (p n : Nat) (v : Value) (k lf : Nat) (al : List ByteArray) (lw : List WItem) : Prop :=
  k + al.length ≤ 3600 ∧ lf + lw.length = n ∧ wr.ownsRow wo.heap.size 9 1 v al.length (al.map Value.string) ∧
    WRep wr (fun b => w.heap.size ≤ b ∧ b < wr.heap.size ∧ some b ≠ v.ownBlock) p 300 lw ∧ Below w.heap.size w wr ∧ ∀ x ∈ lw, x.miss ≠ [] ∧ ∀ t ∈ x.miss, t ∈ al

/-- The row is kept over a coming. -/
theorem LvRel.kept {w wo wr w1 : World} {p n : Nat} {v : Value} {k lf : Nat} {al : List ByteArray} {lw : List WItem} (h : LvRel w wo wr p n v k lf al lw)
    (hf : Fr (fun b => w.heap.size ≤ b ∧ b < wr.heap.size ∧ some b ≠ v.ownBlock) wr w1) : w1.ownsRow wo.heap.size 9 1 v al.length (al.map Value.string) :=
  ownsRow_fr h.2.2.1 hf fun g hg hc => hc.2.2 hg.symm

theorem LvRel.step {w wo wr w1 w2 : World} {p n : Nat} {v v' : Value} {k lf : Nat} {al : List ByteArray} {lw : List WItem} (s : ByteArray) (h : LvRel w wo wr p n v k lf al lw) (hs : s ∈ al) (hwo : wo.heap.size ≤ wr.heap.size) (hw : w.heap.size ≤ wo.heap.size)
    (hr1 : WRep w1 (fun b => (w.heap.size ≤ b ∧ b < wr.heap.size ∧ some b ≠ v.ownBlock) ∨ (wr.heap.size ≤ b ∧ b < w1.heap.size)) p 300 (lw.filterMap (stay s)))
    (hf : Fr (fun b => w.heap.size ≤ b ∧ b < wr.heap.size ∧ some b ≠ v.ownBlock) wr w1)
    (hown : w2.ownsRow w1.heap.size 9 1 v' (strip s al).length ((strip s al).map Value.string)) (hb : Below w1.heap.size w1 w2) :
    LvRel w wo w2 p n v' (k + 1) (lf + (lw.filterMap (goes s)).length) (strip s al) (lw.filterMap (stay s)) := by
  obtain ⟨h1, h2, h3, h4, h5, h6⟩ := h
  have e1 := strip_lt hs
  have e2 := goes_stay_length s lw
  have z1 := hf.size
  have z2 := hb.size
  refine ⟨by omega, by omega, ownsRow_weaken hown (by omega), ?_, ?_, stay_inv s h6⟩
  · refine (hr1.below hb).move_F fun b hb' => ?_
    have hlt : b < w1.heap.size := by rcases hb' with h | h <;> omega
    refine ⟨by rcases hb' with h | h <;> omega, by omega, fun e => ?_⟩
    have := (hown.lt b e.symm).1
    omega
  · exact (h5.trans (hf.to_below h5.size (fun b hb' hc => by omega))).trans (hb.mono (by have := h5.size; omega))

set_option maxHeartbeats 2000000 in
set_option maxRecDepth 100000 in
theorem leaves_walk (A1 A2 : Option Addr) (c1 c2 : Nat) (l : List ActS) (by1 : List Int) (w : World) (hl1 : l.length ≤ c1) (hr1 : Kd.C k32 w A1 l.length l) (hl2 : by1.length ≤ c2) (hr2 : Kd.C (Kd.int .i64) w A2 by1.length by1) :
    Calls Try.prog 3 #[.slice A1 l.length c1, .slice A2 by1.length c2] w fun e w' => e = .returned (.bool true) ∧ Below w.heap.size w w' := by
  obtain ⟨r, hsm, hgr⟩ := great_calls hr1 hl1
  have HG := Lib.hid hgr
  have HR1 := Lib.hid hr1
  have HR2 := Lib.hid hr2
  clear hgr hr1 hr2
  go_enter Try.func3, Try.ntmps3
  go_wp2_with fail
  refine HG.out.mono ?_
  rintro e w1 ⟨rfl, hd⟩
  have hb1 := hd.below
  cases r with
  | true =>
    go_wp2_with (go_at_call 7; refine (awake_any _).mono ?_; rintro e w2 ⟨rfl, hb2⟩)
    go_ret
    exact ⟨rfl, hb1.trans (hb2.mono hb1.size)⟩
  | false =>
    obtain ⟨hs1, hs2⟩ := hsm rfl
    have HS2 := Lib.hid hs2
    clear hs2 HG hd
    go_wp2_with (first
      | (go_at_call 7; refine (awake_any _).mono ?_; rintro e w2 ⟨rfl, hb2⟩)
      | (go_at_call 8; refine (new_ok 300 _ (by omega) (by omega)).mono ?_; rintro e w3 ⟨rfl, rfl⟩))
    have hb2 : Below w.heap.size w w2 := hb1.trans ((‹Below w1.heap.size w1 w2›).mono hb1.size)
    have hB := hb2.size
    have hr0 := Lib.hid (wrep_new 300 w2)
    go_loopw [6] (fun i wr => ∃ k : Nat, k ≤ l.length ∧ i = .int .i64 k ∧ WRep wr (fun b => w.heap.size ≤ b ∧ b < wr.heap.size) w2.heap.size 300 (puts l k) ∧ Below w.heap.size w wr) (fun i _ => l.length - (intOf i).toNat)
    case atStart =>
      exact ⟨0, Nat.zero_le _, rfl, hr0.out.move_F (fun b hb => by subst hb; rw [asz]; omega), hb2.alloc hB _⟩
    case round =>
      obtain ⟨k, hk, rfl, hrep, hb⟩ := hrel
      have HREP := Lib.hid hrep
      clear hrep hr0
      by_cases hlt : k < l.length
      · obtain ⟨ad, A3, c3, rfl, hadb, k1, k2, k3, k0, hc3, hr3⟩ := act_at HR1.out hlt
        have j1 := (hb.cell (p := ⟨(ad.add (k * 4)).block, (ad.add (k * 4)).off + 1, none⟩) hadb).trans k1
        have j2 := (hb.cell (p := ⟨(ad.add (k * 4)).block, (ad.add (k * 4)).off + 2, none⟩) hadb).trans k2
        have j3 := (hb.cell (p := ⟨(ad.add (k * 4)).block, (ad.add (k * 4)).off + 3, none⟩) hadb).trans k3
        have HR3 := Lib.hid (Kd.C_below hr3 hb)
        clear k1 k2 k3 k0 hr3
        go_wp2_with fail
        go_still_tail 16, (by kernel_rfl)
        change wpList _ _ _ _ _ wr.drew
        have HREPd : Hid (WRep wr.drew (fun b => w.heap.size ≤ b ∧ b < wr.heap.size) w2.heap.size 300 (puts l k)) := HREP.out.move fun _ _ _ => rfl
        have HR3d : Hid (Kd.C Kd.string wr.drew A3 l[k].f3.length l[k].f3) := Kd.C_below HR3.out (Below.refl _ _).drew
        go_wp2_with (go_at_call 9; refine (put_any l[k].f1 l[k].f2 A3 c3 l[k].f3 HREPd.out (by have := puts_length (l := l) (k := k) hk; omega) (by have := HS2.out l[k] (List.getElem_mem hlt); omega) HR3d.out).mono ?_; rintro e w4 ⟨rfl, hrep4, hf4⟩; have HREP4 := Lib.hid hrep4; have HF4 := Lib.hid hf4; clear hrep4 hf4)
        go_roundw
        case rel =>
          have hsz := hb.size
          have hf := HF4.out
          have hs4 : wr.heap.size ≤ w4.heap.size := hf.size
          refine ⟨k + 1, by omega, by go_num, ?_, ?_⟩
          · rw [puts_succ hlt]
            exact HREP4.out.fresh (w := wr) hsz hs4
          · exact hb.trans ((Fr.refl (fun b => w.heap.size ≤ b ∧ b < wr.heap.size) wr).drew.trans hf (fun _ _ h => h) |>.to_below hsz (fun k hk h => by omega))
        case measure => simp [intOf]; omega
      · obtain rfl : k = l.length := by omega
        have hlen := puts_length (l := l) (k := l.length) (Nat.le_refl _)
        obtain ⟨L1, hL1⟩ : ∃ L, puts l l.length = L := ⟨_, rfl⟩
        rw [hL1] at HREP hlen
        have HL1 := Lib.hid hL1
        clear hL1
        go_wp2_with (go_at_call 10; refine (len_any HREP.out).mono ?_; rintro e w4 ⟨rfl, rfl⟩)
        obtain ⟨wo, rfl⟩ : ∃ wo : World, wo = wr := ⟨_, rfl⟩
        obtain ⟨i0, hi0, hz0, hz1, hz2⟩ := info_parts info_str
        have hwo := hb.size
        go_loopw [8, 9] (fun v i wr => ∃ k : Nat, k ≤ l.length ∧ i = .int .i64 k ∧ wr.ownsRow wo.heap.size 9 1 v (allM l k).length ((allM l k).map Value.string) ∧ Below wo.heap.size wo wr) (fun _ i _ => l.length - (intOf i).toNat)
        case atStart => exact ⟨0, Nat.zero_le _, rfl, World.ownsRow_nil _ _ _ _, Below.refl _ _⟩
        case round =>
          obtain ⟨k, hk, rfl, hown, hb4⟩ := hrel
          have HOWN := Lib.hid hown
          have hal := allM_length HS2.out hk
          clear hown
          by_cases hlt : k < l.length
          · obtain ⟨ad, A3, c3, rfl, hadb, k1, k2, k3, k0, hc3, hr3⟩ := act_at HR1.out hlt
            have hbw : Below w.heap.size w wr := hb.trans (hb4.mono hwo)
            have j3 := (hbw.cell (p := ⟨(ad.add (k * 4)).block, (ad.add (k * 4)).off + 3, none⟩) hadb).trans k3
            have HR3 := Lib.hid (Kd.C_below hr3 hbw)
            have hk60 := HS2.out l[k] (List.getElem_mem hlt)
            clear k1 k2 k3 k0 hr3
            go_wp2_with (at_builtin; refine wpList_append_strs _ rfl (.tmp 52) (.tmp 57) 30 rfl wo.heap.size 9 i0 Try.underlying30 hi0 hz0 hz1 hz2 _ (allM l k) l[k].f3 rfl HOWN.out A3 c3 rfl HR3.out (by omega) hb4.size ?_; intro v' w5 hown5 hg5 hat5)
            go_roundw
            case rel =>
              refine ⟨k + 1, by omega, by go_num, ?_, ?_⟩
              · rw [allM_succ hlt]; exact hown5
              · exact ((Fr.of_below (S := fun _ => False) hb4).grown hg5 (fun g hg => .inl (HOWN.out.lt g hg).1)).to_below (Nat.le_refl _) (fun _ _ h => h)
            case measure => simp [intOf]; omega
          · obtain rfl : k = l.length := by omega
            obtain ⟨A5, c5, rfl, hc5, hr5, ho5⟩ := own_read HOWN.out (by omega)
            go_wp2_with (go_at_call 11; refine (sorted_calls hr5 hc5 (by omega)).mono ?_; rintro e w6 ⟨v6, rfl, hown6, hb6⟩)
            have hinv0 := puts_inv (l := l) (k := l.length) (Nat.le_refl _)
            rw [HL1.out] at hinv0
            have hrel0 : LvRel w wo w6 w2.heap.size L1.length v6 0 0 (srt (allM l l.length)) L1 := by
              have hsl := srt_length (allM l l.length)
              have hz6 : wo.heap.size ≤ w6.heap.size := Nat.le_trans hb4.size hb6.size
              refine ⟨by omega, by omega, ownsRow_weaken hown6 hb4.size, ?_, hb.trans ((hb4.trans (hb6.mono hb4.size)).mono hwo), fun x hx => ⟨(hinv0 x hx).1, fun t ht => (srt_mem _ _).2 ((hinv0 x hx).2 t ht)⟩⟩
              refine (HREP.out.below (hb4.trans (hb6.mono hb4.size))).move_F fun b hb' => ⟨hb'.1, by omega, fun e => ?_⟩
              have h1 := (hown6.lt b e.symm).1
              have h2 := hb4.size
              omega
            have HREL0 := Lib.hid hrel0
            have hz6 : wo.heap.size ≤ w6.heap.size := Nat.le_trans hb4.size hb6.size
            clear hrel0 hown6 hr5 ho5 HOWN hb6 HREP
            go_loopw [8, 10, 11, 12] (fun v lf kk i wr => ∃ (k f : Nat) (al : List ByteArray) (lw : List WItem), kk = .int .i64 k ∧ lf = .int .i64 f ∧ LvRel w wo wr w2.heap.size L1.length v k f al lw ∧ wo.heap.size ≤ wr.heap.size) (fun v _ _ _ _ => lenV v)
            case atStart => exact ⟨0, 0, _, _, rfl, rfl, HREL0.out, hz6⟩
            case round =>
              obtain ⟨kk, f, al, lw, rfl, rfl, hrl, hwz⟩ := hrel
              have HRL := Lib.hid hrl
              obtain ⟨q1, q2, q3, q4, q5, q6⟩ := hrl
              obtain ⟨A7, c7, rfl, hc7, hr7, ho7⟩ := own_read q3 (by omega)
              clear q3 q6
              by_cases hz : al.length = 0
              · obtain rfl : al = [] := List.eq_nil_of_length_eq_zero hz
                have hlw : lw = [] := by
                  rcases lw with _ | ⟨x, lw⟩
                  · rfl
                  · obtain ⟨h1, h2⟩ := HRL.out.2.2.2.2.2 x (by simp)
                    obtain ⟨t, ts, ht⟩ : ∃ t ts, x.miss = t :: ts := by
                      cases hc : x.miss with
                      | nil => exact absurd hc h1
                      | cons t ts => exact ⟨t, ts, rfl⟩
                    exact absurd (h2 t (by rw [ht]; simp)) (by simp)
                subst hlw
                obtain rfl : f = L1.length := by simpa using q2
                have hq4 := Lib.hid q4
                clear q4
                go_wp2_with (first
                  | (go_at_call 10; refine (len_any hq4.out).mono ?_; rintro e w7 ⟨rfl, rfl⟩)
                  | (go_at_call 14; refine (missing_any hq4.out (by simp) (by simp) (by simp)).mono ?_; rintro e w8 ⟨v8, r8, rfl, hr8, hn8, hl8, hown8, hb8⟩; obtain rfl : r8 = [] := List.eq_nil_iff_forall_not_mem.2 (fun s hs => by obtain ⟨x, hx, _⟩ := ((hl8 s).1 hs).1; cases hx); obtain ⟨A8, c8, rfl, _⟩ := own_slice hown8))
                go_ret
                refine ⟨rfl, q5.trans (hb8.mono q5.size)⟩
              · have h0 : 0 < al.length := by omega
                obtain ⟨ad7, rfl, hcell0⟩ := at_str hr7 h0
                have hcell : ∀ i : Nat, (hi : i < al.length) → wr.cell? (ad7.add i) = some (.string al[i]) := fun i hi => by
                  obtain ⟨_, e, hc⟩ := at_str hr7 hi
                  cases e
                  exact hc
                have hfree : ∀ i, some (ad7.add i).block = (Value.slice (some ad7) al.length c7).ownBlock := fun i => by
                  rw [show (ad7.add i).block = ad7.block by unfold Addr.add; split <;> rfl]
                  exact (ho7 ad7 rfl).symm
                have HC := Lib.hid hcell
                clear hcell hcell0 hr7
                by_cases hk2 : kk < by1.length
                · obtain ⟨adb, rfl, hb0⟩ := at_i64 HR2.out hk2
                  have hbc := (HRL.out.2.2.2.2.1.cell (p := adb.add kk) (World.block_lt_of_cell? _ _ hb0)).trans hb0
                  have hX := at_rem by1[kk] h0 (by omega)
                  have hXl : (wrap64 ((IntKind.u64.wrap by1[kk]).tmod (al.length : Int))).toNat < al.length := by omega
                  obtain ⟨s, hs⟩ : ∃ s, s = al[(wrap64 ((IntKind.u64.wrap by1[kk]).tmod (al.length : Int))).toNat] := ⟨_, rfl⟩
                  have hcell : wr.cell? (ad7.add (wrap64 ((IntKind.u64.wrap by1[kk]).tmod (al.length : Int))).toNat) = some (.string s) := by rw [hs]; exact HC.out _ hXl
                  have hmem : s ∈ al := by rw [hs]; exact List.getElem_mem _
                  clear hs
                  have hq4 := Lib.hid q4
                  clear q4
                  go_wp2_with (first
                    | (go_at_call 12; refine (come_any s hq4.out (by omega)).mono ?_; rintro e w7 ⟨vo, rfl, hgot, hrep7, hf7⟩; obtain ⟨Ag, cg, rfl, hcg⟩ := own_slice hgot; have hkept := HRL.out.kept hf7; obtain ⟨A8, c8, e8, hc8, hr8, ho8⟩ := own_read hkept (by omega); cases e8; have hcell7 := (hf7.cell (World.block_lt_of_cell? _ _ hcell) (fun hc => hc.2.2 (hfree _))).trans hcell; have HREP7 := Lib.hid hrep7; have HF7 := Lib.hid hf7; have HR8 := Lib.hid hr8; clear hgot hrep7 hf7 hr8 hkept ho8)
                    | (go_at_call 13; refine (without_calls s HR8.out hc8 (by omega)).mono ?_; rintro e w9 ⟨v9, rfl, hown9, hb9⟩))
                  have hs9 := HF7.out.size
                  have hs10 := hb9.size
                  refine ⟨⟨kk + 1, f + (lw.filterMap (goes s)).length, _, _, by go_num, ?_, HRL.out.step s hmem hwz hwo HREP7.out HF7.out hown9 hb9, by omega⟩, ?_⟩
                  · have := goes_stay_length s lw
                    congr 1
                    unfold wrap64
                    omega
                  · obtain ⟨A9, c9, rfl, _⟩ := own_slice hown9
                    exact strip_lt hmem
                · have hcell : wr.cell? ad7 = some (.string al[0]) := HC.out 0 h0
                  have hmem : al[0] ∈ al := List.getElem_mem _
                  have hq4 := Lib.hid q4
                  clear q4
                  go_wp2_with (first
                    | (go_at_call 12; refine (come_any al[0] hq4.out (by omega)).mono ?_; rintro e w7 ⟨vo, rfl, hgot, hrep7, hf7⟩; obtain ⟨Ag, cg, rfl, hcg⟩ := own_slice hgot; have hkept := HRL.out.kept hf7; obtain ⟨A8, c8, e8, hc8, hr8, ho8⟩ := own_read hkept (by omega); cases e8; have hcell7 := (hf7.cell (World.block_lt_of_cell? _ _ hcell) (fun hc => hc.2.2 rfl)).trans hcell; have HREP7 := Lib.hid hrep7; have HF7 := Lib.hid hf7; have HR8 := Lib.hid hr8; clear hgot hrep7 hf7 hr8 hkept ho8)
                    | (go_at_call 13; refine (without_calls al[0] HR8.out hc8 (by omega)).mono ?_; rintro e w9 ⟨v9, rfl, hown9, hb9⟩))
                  have hs9 := HF7.out.size
                  have hs10 := hb9.size
                  refine ⟨⟨kk + 1, f + (lw.filterMap (goes al[0])).length, _, _, by go_num, ?_, HRL.out.step al[0] hmem hwz hwo HREP7.out HF7.out hown9 hb9, by omega⟩, ?_⟩
                  · have := goes_stay_length al[0] lw
                    congr 1
                    unfold wrap64
                    omega
                  · obtain ⟨A9, c9, rfl, _⟩ := own_slice hown9
                    exact strip_lt hmem

end Go.Proofs.Ytaecjkffemmpcaa
