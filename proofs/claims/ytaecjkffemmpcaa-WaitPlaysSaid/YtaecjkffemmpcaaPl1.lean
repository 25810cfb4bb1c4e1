/- WaitPlays: the walk of the law. -/
import Derived.Test.YtaecjkffemmpcaaLv1
import Derived.Test.YtaecjkffemmpcaaPl2
import Derived.Deep.CutBlock
import Derived.Deep.DeepCutAuto
import Derived.Deep.RegionHeld3
namespace Go.Proofs.Ytaecjkffemmpcaa
open Go.RowKit Go.Proofs.YtaecjkffemmpcaaW.PrintWords Go.Proofs.Ytaecjkffemmpcaa.PRef

theorem has_dec {w : World} {F : Nat → Prop} {p : Nat} {places : Int} {l : List WItem} (id : ByteArray) (h : WRep w F p places l) (hm : l.length ≤ maxLen) :
    Calls Try.prog 17 #[.pointer (some ⟨p, 0, none⟩), .string id] w fun e w' => e = .returned (.bool (decide (0 ≤ findIx l id))) ∧ Below w.heap.size w w' := has_any id h hm

set_option maxHeartbeats 2000000 in
set_option maxRecDepth 100000 in
theorem plays_walk (places : Int) (A1 : Option Addr) (c1 : Nat) (l : List ActS) (w : World) (hl1 : l.length ≤ c1) (hr1 : Kd.C k32 w A1 l.length l) (hsz : ∀ x ∈ l, ∀ s ∈ x.f3, s.size ≤ maxLen) :
    Calls Try.prog 4 #[.int .i64 places, .slice A1 l.length c1] w fun e w' => e = .returned (.bool true) ∧ Below w.heap.size w w' := by
  obtain ⟨r, hsm, hgr⟩ := great_calls hr1 hl1
  have HG := Lib.hid hgr
  have HR1 := Lib.hid hr1
  have HSZL := Lib.hid hsz
  clear hgr hr1 hsz
  go_enter Try.func4, Try.ntmps4
  go_wp2_with fail
  refine HG.out.mono ?_
  rintro e w1 ⟨rfl, hd⟩
  have hb1 := hd.below
  cases r with
  | true =>
    go_wp2_with (go_at_call 7; refine (awake_any _).mono ?_; rintro e w2 ⟨rfl, hb2⟩)
    go_ret
    exact ⟨rfl, hb1.trans (hb2.mono hb1.size)⟩
  | false =>
    obtain ⟨hs1, hs2⟩ := hsm rfl
    have HS2 := Lib.hid hs2
    clear hs2 HG hd
    by_cases hbad : places < 0 ∨ 300 < places
    · go_wp2_with (first
        | (go_at_call 7; refine (awake_any _).mono ?_; rintro e w2 ⟨rfl, hb2⟩)
        | (go_at_call 8; refine (new_bad places _ hbad).mono ?_; rintro e w3 ⟨rfl, hb3⟩))
      · go_ret
        exact ⟨rfl, hb1.trans (hb2.mono hb1.size)⟩
      · go_ret
        exact ⟨rfl, hb1.trans (hb2.mono hb1.size)⟩
    · go_wp2_with (first
        | (go_at_call 7; refine (awake_any _).mono ?_; rintro e w2 ⟨rfl, hb2⟩)
        | (go_at_call 8; refine (new_ok places _ (by omega) (by omega)).mono ?_; rintro e w3 ⟨rfl, rfl⟩))
      have hb2 : Below w.heap.size w w2 := hb1.trans ((‹Below w1.heap.size w1 w2›).mono hb1.size)
      have hB := hb2.size
      have hr0 := Lib.hid (wrep_new places w2)
      go_loopw [6, 7] (fun v i wr => ∃ (k : Nat) (lw : List WItem), k ≤ l.length ∧ i = .int .i64 k ∧ PlRel w wr w2.heap.size places v lw ∧ lw.length ≤ k ∧ GoodW lw) (fun _ i _ => l.length - (intOf i).toNat)
      case atStart =>
        exact ⟨0, [], Nat.zero_le _, rfl, ⟨[], NRow.nil _ _, hr0.out.move_F (fun b hb => by subst hb; rw [asz]; exact ⟨by omega, by omega, fun h => by rcases h with h | ⟨u, hu, _⟩; cases h; cases hu⟩), hb2.alloc hB _⟩, Nat.le_refl _, fun x hx => by cases hx⟩
      case round =>
        obtain ⟨k, lw, hk, rfl, hpl, hlk, hgood⟩ := hrel
        have HPL := Lib.hid hpl
        have HGD := Lib.hid hgood
        have hwr := hpl.below.size
        clear hr0 hgood
        by_cases hlt : k < l.length
        · obtain ⟨ad, A3, c3, rfl, hadb, k1, k2, k3, k0, hc3, hr3⟩ := act_at HR1.out hlt
          have hb := hpl.below
          have j0 := (hb.cell (p := ad.add (k * 4)) hadb).trans k0
          have j1 := (hb.cell (p := ⟨(ad.add (k * 4)).block, (ad.add (k * 4)).off + 1, none⟩) hadb).trans k1
          have j2 := (hb.cell (p := ⟨(ad.add (k * 4)).block, (ad.add (k * 4)).off + 2, none⟩) hadb).trans k2
          have j3 := (hb.cell (p := ⟨(ad.add (k * 4)).block, (ad.add (k * 4)).off + 3, none⟩) hadb).trans k3
          have HR3 := Lib.hid (Kd.C_below hr3 hb)
          have HR3w := Lib.hid hr3
          clear k0 k1 k2 k3 hr3 hb hpl
          go_upto_block 2 with fail
          go_cut [6, 45] (fun v _ wc => ∃ lw', PlRel w wc w2.heap.size places v lw' ∧ lw'.length ≤ k + 1 ∧ GoodW lw' ∧ wc.cell? ⟨wr.heap.size, 1, none⟩ = some (.string l[k].f1))
          case first =>
            obtain ⟨us, hN, hW, hB'⟩ := HPL.out
            have hbb : Below wr.heap.size wr (wr.alloc (.cells #[.int .i64 l[k].f0, .string l[k].f1, .string l[k].f2, .slice A3 l[k].f3.length c3] 32)) := (Below.refl _ _).alloc (Nat.le_refl _) _
            obtain ⟨wb, hwb⟩ : ∃ wb, wb = wr.alloc (.cells #[.int .i64 l[k].f0, .string l[k].f1, .string l[k].f2, .slice A3 l[k].f3.length c3] 32) := ⟨_, rfl⟩
            obtain ⟨x0, x1, x2, x3⟩ := box4 (w := wb) (by rw [hwb]; exact heap_alloc_new _ _)
            have hbz : wb.heap.size = wr.heap.size + 1 := by rw [hwb]; simp
            rw [← hwb] at hbb ⊢
            have HBB := Lib.hid hbb
            have HNB := Lib.hid (show ∀ b, NBlk u6 us b → b < wr.heap.size from fun b hb => (hN.lt hb).2)
            have HN := Lib.hid (hN.below hbb)
            have HW := Lib.hid (hW.below hbb)
            have HB' := Lib.hid (hB'.trans (hbb.mono hwr))
            have HR3b := Lib.hid (Kd.C_below HR3.out hbb)
            have hk60 := HS2.out l[k] (List.getElem_mem hlt)
            have HSZ := Lib.hid (HSZL.out l[k] (List.getElem_mem hlt))
            have hl1k : lw.length ≤ 1000 := by omega
            have hm1k : l[k].f3.length ≤ 1000 := by omega
            clear hN hW hbb hB' hwb j0 j1 j2 j3
            obtain ⟨A6, c6, rfl, hc6, hr6⟩ := HN.out.read hl1k (fun x hx => Nat.le_trans (HGD.out x hx).1 (by omega))
            have HG1 := Lib.hid (show ∀ x ∈ lw, x.miss.length ≤ 1000 from fun x hx => Nat.le_trans (HGD.out x hx).1 (by omega))
            have hl1m : lw.length ≤ 1000000 := by omega
            have hbz' : wr.heap.size ≤ wb.heap.size := by omega
            clear hr6
            by_cases hk0 : l[k].f0 = 0
            · by_cases hm0 : l[k].f3.length = 0
              · have hput : putP places lw l[k].f1 l[k].f2 l[k].f3 = (1, lw) := by simp [putP, hm0]
                have HPUT := Lib.hid hput
                have HM0 := Lib.hid hm0
                clear hput hm0
                go_wp2_with ((go_at_call 9; refine (put_any l[k].f1 l[k].f2 A3 c3 l[k].f3 HW.out hl1k hm1k HR3b.out).mono ?_; rintro e w4 ⟨rfl, hrep4, hf4⟩; rw [HPUT.out] at hrep4 ⊢; obtain ⟨hn4, hr4, hb4⟩ := HN.out.after hf4 hrep4 hbz' rfl HB'.out; obtain ⟨_, _, e6, _, hr6⟩ := hn4.read hl1k HG1.out; cases e6; have z1 := (hf4.cell (World.block_lt_of_cell? _ _ x1) (fun hc => absurd hc.2.1 (Nat.lt_irrefl _))).trans x1; have z2 := (hf4.cell (World.block_lt_of_cell? _ _ x2) (fun hc => absurd hc.2.1 (Nat.lt_irrefl _))).trans x2; have z3 := (hf4.cell (World.block_lt_of_cell? _ _ x3) (fun hc => absurd hc.2.1 (Nat.lt_irrefl _))).trans x3; have HN4 := Lib.hid hn4; have HR4 := Lib.hid hr4; have HB4 := Lib.hid hb4; have HR6 := Lib.hid hr6; have hm0 := HM0.out; clear hrep4 hf4 hn4 hr4 hb4 hr6))
                go_meet
                case rel => exact ⟨lw, ⟨us, HN4.out, HR4.out, HB4.out⟩, by omega, HGD.out, z1⟩
              · by_cases hi0 : 0 ≤ findIx lw l[k].f1
                · have hput : putP places lw l[k].f1 l[k].f2 l[k].f3 = (11, lw) := by simp [putP, hm0, hasIx, hi0]
                  have HPUT := Lib.hid hput
                  clear hput
                  go_wp2_with (first
                    | (go_at_call 9; refine (put_any l[k].f1 l[k].f2 A3 c3 l[k].f3 HW.out hl1k hm1k HR3b.out).mono ?_; rintro e w4 ⟨rfl, hrep4, hf4⟩; rw [HPUT.out] at hrep4 ⊢; obtain ⟨hn4, hr4, hb4⟩ := HN.out.after hf4 hrep4 hbz' rfl HB'.out; obtain ⟨_, _, e6, _, hr6⟩ := hn4.read hl1k HG1.out; cases e6; have z1 := (hf4.cell (World.block_lt_of_cell? _ _ x1) (fun hc => absurd hc.2.1 (Nat.lt_irrefl _))).trans x1; have z2 := (hf4.cell (World.block_lt_of_cell? _ _ x2) (fun hc => absurd hc.2.1 (Nat.lt_irrefl _))).trans x2; have z3 := (hf4.cell (World.block_lt_of_cell? _ _ x3) (fun hc => absurd hc.2.1 (Nat.lt_irrefl _))).trans x3; have HN4 := Lib.hid hn4; have HR4 := Lib.hid hr4; have HB4 := Lib.hid hb4; have HR6 := Lib.hid hr6; skip; clear hrep4 hf4 hn4 hr4 hb4 hr6)
                    | (go_at_call 15; refine (find_calls l[k].f1 HR6.out hc6 hl1m).mono ?_; rintro e w5 ⟨rfl, hd5⟩; have hb5 := hd5.below; have y1 := (hb5.cell (World.block_lt_of_cell? _ _ z1)).trans z1; have y2 := (hb5.cell (World.block_lt_of_cell? _ _ z2)).trans z2; have y3 := (hb5.cell (World.block_lt_of_cell? _ _ z3)).trans z3))
                  go_meet
                  case rel => exact ⟨lw, PlRel.keep ⟨us, HN4.out, HR4.out, HB4.out⟩ hb5, by omega, HGD.out, y1⟩
                · by_cases hp0 : places ≤ (lw.length : Int)
                  · have hput : putP places lw l[k].f1 l[k].f2 l[k].f3 = (8, lw) := by simp [putP, hm0, hasIx, hi0, hp0]
                    have HPUT := Lib.hid hput
                    clear hput
                    go_wp2_with (first
                      | (go_at_call 9; refine (put_any l[k].f1 l[k].f2 A3 c3 l[k].f3 HW.out hl1k hm1k HR3b.out).mono ?_; rintro e w4 ⟨rfl, hrep4, hf4⟩; rw [HPUT.out] at hrep4 ⊢; obtain ⟨hn4, hr4, hb4⟩ := HN.out.after hf4 hrep4 hbz' rfl HB'.out; obtain ⟨_, _, e6, _, hr6⟩ := hn4.read hl1k HG1.out; cases e6; have z1 := (hf4.cell (World.block_lt_of_cell? _ _ x1) (fun hc => absurd hc.2.1 (Nat.lt_irrefl _))).trans x1; have z2 := (hf4.cell (World.block_lt_of_cell? _ _ x2) (fun hc => absurd hc.2.1 (Nat.lt_irrefl _))).trans x2; have z3 := (hf4.cell (World.block_lt_of_cell? _ _ x3) (fun hc => absurd hc.2.1 (Nat.lt_irrefl _))).trans x3; have HN4 := Lib.hid hn4; have HR4 := Lib.hid hr4; have HB4 := Lib.hid hb4; have HR6 := Lib.hid hr6; skip; clear hrep4 hf4 hn4 hr4 hb4 hr6)
                      | (go_at_call 15; refine (find_calls l[k].f1 HR6.out hc6 hl1m).mono ?_; rintro e w5 ⟨rfl, hd5⟩; have hb5 := hd5.below; have y1 := (hb5.cell (World.block_lt_of_cell? _ _ z1)).trans z1; have y2 := (hb5.cell (World.block_lt_of_cell? _ _ z2)).trans z2; have y3 := (hb5.cell (World.block_lt_of_cell? _ _ z3)).trans z3))
                    go_meet
                    case rel => exact ⟨lw, PlRel.keep ⟨us, HN4.out, HR4.out, HB4.out⟩ hb5, by omega, HGD.out, y1⟩
                  · have hput : putP places lw l[k].f1 l[k].f2 l[k].f3 = (0, lw ++ [⟨l[k].f1, l[k].f2, addAll l[k].f3⟩]) := by simp [putP, hm0, hasIx, hi0, hp0]
                    have HPUT := Lib.hid hput
                    clear hput
                    obtain ⟨i0, hii0, hz0, hz1, hz2⟩ := info_parts info_oneL
                    go_wp2_with (first
                      | (go_at_call 9; refine (put_any l[k].f1 l[k].f2 A3 c3 l[k].f3 HW.out hl1k hm1k HR3b.out).mono ?_; rintro e w4 ⟨rfl, hrep4, hf4⟩; rw [HPUT.out] at hrep4 ⊢; obtain ⟨hn4, hr4, hb4⟩ := HN.out.after hf4 hrep4 hbz' rfl HB'.out; obtain ⟨_, _, e6, _, hr6⟩ := hn4.read hl1k HG1.out; cases e6; have z1 := (hf4.cell (World.block_lt_of_cell? _ _ x1) (fun hc => absurd hc.2.1 (Nat.lt_irrefl _))).trans x1; have z2 := (hf4.cell (World.block_lt_of_cell? _ _ x2) (fun hc => absurd hc.2.1 (Nat.lt_irrefl _))).trans x2; have z3 := (hf4.cell (World.block_lt_of_cell? _ _ x3) (fun hc => absurd hc.2.1 (Nat.lt_irrefl _))).trans x3; have HN4 := Lib.hid hn4; have HR4 := Lib.hid hr4; have HB4 := Lib.hid hb4; have HR6 := Lib.hid hr6; have HR3d := Lib.hid (Kd.C_below HR3w.out hb4); clear hrep4 hf4 hn4 hr4 hb4 hr6)
                      | (go_at_call 15; refine (find_calls l[k].f1 HR6.out hc6 hl1m).mono ?_; rintro e w5 ⟨rfl, hd5⟩; have hb5 := hd5.below; have y1 := (hb5.cell (World.block_lt_of_cell? _ _ z1)).trans z1; have y2 := (hb5.cell (World.block_lt_of_cell? _ _ z2)).trans z2; have y3 := (hb5.cell (World.block_lt_of_cell? _ _ z3)).trans z3))
                    have yd1 : w5.drew.cell? ⟨wr.heap.size, 1, none⟩ = some (.string l[k].f1) := y1
                    have yd2 : w5.drew.cell? ⟨wr.heap.size, 2, none⟩ = some (.string l[k].f2) := y2
                    have yd3 : w5.drew.cell? ⟨wr.heap.size, 3, none⟩ = some (.slice A3 l[k].f3.length c3) := y3
                    have hbd := hb5.drew
                    have HR3e := Lib.hid (Kd.C_below HR3d.out hb5.drew)
                    go_region_held3 (fun x => x.cell? ⟨wr.heap.size, 1, none⟩ = some (.string l[k].f1) ∧ x.cell? ⟨wr.heap.size, 2, none⟩ = some (.string l[k].f2) ∧ x.cell? ⟨wr.heap.size, 3, none⟩ = some (.slice A3 l[k].f3.length c3)) (first | (refine ⟨?_, ?_, ?_⟩ <;> assumption) | go_keep)
                      (first
                        | (go_at_call 11; refine (sorted_calls HR3e.out hc3 ?_).mono ?_; omega; rintro e w6 ⟨v6, rfl, hown6, hb6⟩; obtain ⟨ys1, ys2, ys3⟩ := keep3 yd1 yd2 yd3 hb6; obtain ⟨As, cs, rfl, _⟩ := own_slice hown6; have h46 := hb5.drew.trans (hb6.mono hb5.drew.size); have HO6 := Lib.hid (HN4.out.below h46).2.1; have HU6 := Lib.hid hown6; have hz6 : w.heap.size ≤ w6.heap.size := Nat.le_trans HB4.out.size h46.size; clear hown6)
                        | (refine step_append_own rfl (.tmp 92) (.tmp 101) 41 rfl w.heap.size 44 i0 _ 3 56 Try.underlying41 hii0 hz0 hz1 hz2 rfl (by decide) (.slice A6 lw.length c6) lw.length (ncells lw us) rfl (HO6.out.alloc _) ⟨w6.heap.size, 0, none⟩ 1 1 [.string l[k].f1, .string l[k].f2, .slice As (srt l[k].f3).length cs] rfl rfl (cells_new _ _ _) (by simp [Value.oneCell']) (by unfold maxLen; omega) (by omega) (by rw [asz]; omega) ?_; intro v' w7 hown7 hg7 hn7 hat7; obtain ⟨yt1, yt2, yt3⟩ := keepG ys1 ys2 ys3 hg7 (fun e => Nat.lt_irrefl _ (HNB.out _ (.inl e.symm)))))
                    go_wp2_with fail
                    go_meet
                    case rel => exact ⟨lw ++ [⟨l[k].f1, l[k].f2, addAll l[k].f3⟩], PlRel.push HN4.out HR4.out HB4.out h46 (by rw [srt_addAll]; exact ownsRow_weaken HU6.out hb5.drew.size) hown7 hg7 hat7, by simp; omega, HGD.out.push (Nat.le_trans (addAll_length _) hk60) (fun s hs => HSZ.out s ((addAll_mem _ _).1 hs)), yt1⟩
            · by_cases hk1 : l[k].f0 = 1
              · go_wp2_with (go_at_call 12; refine (come_any l[k].f1 HW.out hl1k).mono ?_; rintro e w4 ⟨vo, rfl, hown4, hrep4, hf4⟩; obtain ⟨hn4, hr4, hb4⟩ := HN.out.after hf4 hrep4 hbz' rfl HB'.out; obtain ⟨Ag, cg, rfl, hcg⟩ := own_slice hown4; have z1 := (hf4.cell (World.block_lt_of_cell? _ _ x1) (fun hc => absurd hc.2.1 (Nat.lt_irrefl _))).trans x1; have HN4 := Lib.hid hn4; have HR4 := Lib.hid hr4; have HB4 := Lib.hid hb4; have HGO := Lib.hid hown4; clear hown4 hrep4 hf4 hn4 hr4 hb4)
                obtain ⟨wo, rfl⟩ : ∃ wo : World, wo = wr := ⟨_, rfl⟩
                go_loopw [12, 13, 14, 15] (fun vn vl vk vx wl => ∃ (kk : Nat) (usl : List Value), kk ≤ lw.length ∧ vk = .int .i64 kk ∧ vn = .int .i64 ((lw.take kk).filterMap (goes l[k].f1)).length ∧ NRow wl w4.heap.size vl usl ((lw.take kk).filterMap (stay l[k].f1)) ∧ Below w4.heap.size w4 wl) (fun _ _ i _ _ => lw.length - (intOf i).toNat)
                case atStart => exact ⟨0, [], Nat.zero_le _, rfl, rfl, NRow.nil _ _, Below.refl _ _⟩
                case round =>
                  obtain ⟨kk, usl, hkk, rfl, rfl, hnl, hbl⟩ := hrel
                  have HNL := Lib.hid hnl
                  have HBL := Lib.hid hbl
                  have zwl := hbl.size
                  have y1 := (hbl.cell (World.block_lt_of_cell? _ _ z1)).trans z1
                  clear hnl
                  by_cases hkl : kk < lw.length
                  · obtain ⟨g, cc, u, e, hu, hgl, hgo, q1, q2, q3⟩ := (HN4.out.below hbl).at_ hkl
                    cases e
                    have hms := srt_length lw[kk].miss
                    have hgm := HG1.out _ (List.getElem_mem hkl)
                    obtain ⟨A2, c2, rfl, hc2, hr2, _⟩ := own_read ((HN4.out.below hbl).2.2 kk _ _ (List.getElem?_eq_getElem hkl) hu) (by omega)
                    have HR2 := Lib.hid hr2
                    have HU := Lib.hid hu
                    clear hr2 hbl hu
                    go_upto_region 37 with fail
                    obtain ⟨wx, hwx⟩ : ∃ wx, wx = wr.alloc (.cells #[.string lw[kk].id, .string lw[kk].text, .slice A2 (srt lw[kk].miss).length c2] 44) := ⟨_, rfl⟩
                    have hbx : Below wr.heap.size wr wx := by rw [hwx]; exact (Below.refl _ _).alloc (Nat.le_refl _) _
                    have hxh : wx.heap[wr.heap.size]? = some (.cells #[.string lw[kk].id, .string lw[kk].text, .slice A2 (srt lw[kk].miss).length c2] 44) := by rw [hwx]; exact heap_alloc_new _ _
                    obtain ⟨b0, b1, b2⟩ := box3 hxh
                    have v1 := (hbx.cell (World.block_lt_of_cell? _ _ y1)).trans y1
                    have HXH := Lib.hid hxh
                    have HWX := Lib.hid hwx
                    have HR2x := Lib.hid (Kd.C_below HR2.out hbx)
                    rw [← hwx]
                    have hzx : wx.heap.size = wr.heap.size + 1 := by rw [hwx]; exact asz _ _
                    have hne : wo.heap.size ≠ wr.heap.size := by have := World.block_lt_of_cell? _ _ y1; simp only at this; omega
                    have hl2 : (srt lw[kk].miss).length ≤ 1000000 := by omega
                    clear hwx hxh
                    go_upto_region 38 with (go_at_call 13; refine (without_calls l[k].f1 HR2x.out hc2 hl2).mono ?_; rintro e w5 ⟨v5, rfl, hown5, hb5⟩; obtain ⟨A5, c5, rfl, hc5⟩ := own_slice hown5; have HOWN5 := Lib.hid hown5; obtain ⟨d0, d1, d2⟩ := box3 ((hb5.block wr.heap.size (by omega)).trans HXH.out); obtain ⟨df, dn⟩ := box3f ((hb5.block wr.heap.size (by omega)).trans HXH.out); have HDN := Lib.hid dn; clear hown5 dn)
                    obtain ⟨w6, hw6⟩ : ∃ w6, w6 = w5.setCell ⟨wr.heap.size, 2, none⟩ (.slice A5 (strip l[k].f1 (srt lw[kk].miss)).length c5) := ⟨_, rfl⟩
                    obtain ⟨e0, e1, e2⟩ := box3 (w := w6) (by rw [hw6]; exact HDN.out _)
                    have HW6 := Lib.hid hw6
                    have f1 : w6.cell? ⟨wo.heap.size, 1, none⟩ = some (.string l[k].f1) := by
                      rw [hw6]
                      exact (World.cell?_of_block (Below.heap_setCell _ _ _ _ hne)).trans ((hb5.cell (World.block_lt_of_cell? _ _ v1)).trans v1)
                    have hb46 : Below w4.heap.size w4 w6 := by
                      have h5' := hb5
                      rw [HWX.out] at h5'
                      rw [hw6]
                      exact come_frame HBL.out h5' rfl
                    rw [← hw6]
                    clear hw6
                    by_cases he : (strip l[k].f1 (srt lw[kk].miss)).isEmpty
                    · have hs0 : ¬ 0 < (strip l[k].f1 (srt lw[kk].miss)).length := by rw [List.isEmpty_iff.1 he]; exact Nat.lt_irrefl 0
                      have hgo : goes l[k].f1 lw[kk] = some (lw[kk].id, lw[kk].text) := by rw [goes, if_pos (by rw [← strip_srt_empty]; exact he)]
                      have hst : stay l[k].f1 lw[kk] = none := by rw [stay, if_pos (by rw [← strip_srt_empty]; exact he)]
                      obtain ⟨hn1, hn2⟩ := goes_at hkl hgo
                      obtain ⟨hc0, hc1⟩ := cell2_at hn2
                      obtain ⟨gg, cgg, egg⟩ := own_pos HGO.out (by omega)
                      cases egg
                      have hcg0 := (hb46.cell (World.block_lt_of_cell? _ _ (HGO.out.cells (g := gg) rfl _ _ hc0))).trans (HGO.out.cells (g := gg) rfl _ _ hc0)
                      have hcg1 := (hb46.cell (World.block_lt_of_cell? _ _ (HGO.out.cells (g := gg) rfl _ _ hc1))).trans (HGO.out.cells (g := gg) rfl _ _ hc1)
                      rw [add0] at hcg0 hcg1
                      have hgd : decide (((lw.filterMap (goes l[k].f1)).length : Int) ≤ (((lw.take kk).filterMap (goes l[k].f1)).length : Int)) = false := decide_eq_false (by omega)
                      have hgi : (((lw.take kk).filterMap (goes l[k].f1)).length : Int) < ((lw.filterMap (goes l[k].f1)).length : Int) := by omega
                      have HGOE := Lib.hid hgo
                      have HSTE := Lib.hid hst
                      clear hgo hst hn2 hc0 hc1 he
                      go_wp2_with fail
                      go_quiet (fail)
                      go_wp2_with fail
                      refine ⟨⟨kk + 1, usl, by omega, by go_num, ?_, ?_, ?_⟩, by simp [intOf]; omega⟩
                      · rw [take_filterMap _ hkl, HGOE.out]
                        simp only [Option.toList_some, List.length_append, List.length_cons, List.length_nil]
                        have := len_le (goes l[k].f1) lw kk
                        congr 1
                        unfold wrap64
                        omega
                      · rw [take_filterMap _ hkl, HSTE.out, Option.toList_none, List.append_nil]
                        refine HNL.out.move fun b hb => ?_
                        have h5' := hb5
                        rw [HWX.out] at h5'
                        show w6.heap[b]? = _
                        rw [HW6.out]
                        exact come_block h5' rfl (HNL.out.lt hb).2
                      · exact ((Fr.of_below (S := fun _ => False) hb46).drewN nq).to_below (Nat.le_refl _) fun _ _ h => h
                    · have hs0 : 0 < (strip l[k].f1 (srt lw[kk].miss)).length := by
                        cases hc : strip l[k].f1 (srt lw[kk].miss) with
                        | nil => rw [hc] at he; exact absurd rfl he
                        | cons y ys => simp
                      have hgo : goes l[k].f1 lw[kk] = none := by rw [goes, if_neg (by rw [← strip_srt_empty]; exact he)]
                      have hst : stay l[k].f1 lw[kk] = some { lw[kk] with miss := strip l[k].f1 lw[kk].miss } := by rw [stay, if_neg (by rw [← strip_srt_empty]; exact he)]
                      have HGOE := Lib.hid hgo
                      have HSTE := Lib.hid hst
                      have hll := len_le (stay l[k].f1) lw kk
                      obtain ⟨i0, hii0, hz0, hz1, hz2⟩ := info_parts info_oneL
                      have HOL := Lib.hid (show w6.ownsRow w4.heap.size 44 3 u13 ((lw.take kk).filterMap (stay l[k].f1)).length (ncells ((lw.take kk).filterMap (stay l[k].f1)) usl) from ownsRow_move HNL.out.2.1 fun b hb => by
                        have h5' := hb5
                        rw [HWX.out] at h5'
                        rw [HW6.out]
                        exact come_block h5' rfl (HNL.out.2.1.lt b hb).2)
                      have hz46 := hb46.size
                      clear hgo hst he
                      go_wp2_with (at_builtin; refine wpList_append_own_at _ rfl (.tmp 132) (.tmp 134) 41 rfl w4.heap.size 44 i0 _ 3 56 Try.underlying41 hii0 hz0 hz1 hz2 rfl (by decide) _ _ _ rfl (HOL.out.alloc _) ⟨w6.heap.size, 0, none⟩ 1 1 [.string lw[kk].id, .string lw[kk].text, .slice A5 (strip l[k].f1 (srt lw[kk].miss)).length c5] rfl rfl (cells_new _ _ _) (by simp [Value.oneCell']) (by unfold maxLen; omega) (by omega) (by rw [asz]; omega) ?_; intro v' w7 hown7 hg7 hn7 hat7)
                      refine ⟨⟨kk + 1, usl ++ [.slice A5 (strip l[k].f1 (srt lw[kk].miss)).length c5], by omega, by go_num, ?_, ?_, ?_⟩, by simp [intOf]; omega⟩
                      · rw [take_filterMap _ hkl, HGOE.out, Option.toList_none, List.append_nil]
                      · rw [take_filterMap _ hkl, HSTE.out, Option.toList_some]
                        have h5' := hb5
                        have ho5 := HOWN5.out
                        have hg7' := hg7
                        rw [HWX.out] at h5' ho5
                        rw [HW6.out] at hg7'
                        exact come_push (x := { lw[kk] with miss := strip l[k].f1 lw[kk].miss }) HNL.out h5' rfl zwl (by show w5.ownsRow _ _ _ _ (srt (strip l[k].f1 lw[kk].miss)).length ((srt (strip l[k].f1 lw[kk].miss)).map Value.string); rw [← strip_srt]; exact ho5) hown7 hg7'
                      · exact ((((Fr.of_below (S := fun _ => False) hb46).alloc _).grown hg7 fun b hb => .inl (HNL.out.lt (.inl hb)).1)).to_below (Nat.le_refl _) fun _ _ h => h
                  · obtain rfl : kk = lw.length := by omega
                    have hn0 : ((((lw.take lw.length).filterMap (goes l[k].f1)).length : Int) != ((lw.filterMap (goes l[k].f1)).length : Int)) = false := by simp
                    go_wp2_with fail
                    go_meet
                    case rel =>
                      rw [List.take_length] at HNL
                      have h4 := HB4.out
                      refine ⟨lw.filterMap (stay l[k].f1), ⟨usl, HNL.out.weaken h4.size, (HR4.out.below hbl).move_F fun b hb => ⟨hb.1, by omega, fun hn => ?_⟩, h4.trans (hbl.mono h4.size)⟩, Nat.le_trans (List.length_filterMap_le _ _) (by omega), GoodLen_stay _ HGD.out, y1⟩
                      have := (HNL.out.lt hn).1
                      omega
              · obtain ⟨_, _, e6, _, hr6⟩ := HN.out.read hl1k HG1.out
                cases e6
                have HR6b := Lib.hid hr6
                clear hr6
                rcases findIx_cases lw l[k].f1 with hix | ⟨i, hix, hil⟩
                · have hda : dropAt lw l[k].f1 = lw := by simp [dropAt, hix]
                  have hd0 : hasIx lw l[k].f1 = false := by simp [hasIx, hix]
                  have HDA := Lib.hid hda
                  have HD0 := Lib.hid hd0
                  clear hda hd0
                  go_wp2_with (first
                    | (go_at_call 15; refine (find_calls l[k].f1 HR6b.out hc6 hl1m).mono ?_; rintro e w3 ⟨rfl, hd3⟩; have hb3 := hd3.below; have z1 := (hb3.cell (World.block_lt_of_cell? _ _ x1)).trans x1)
                    | (go_at_call 16; refine (drop_any l[k].f1 (HW.out.below hb3) hl1k).mono ?_; rintro e w4 ⟨rfl, hrep4, hf4⟩; rw [HD0.out]; obtain ⟨hn4, hr4, hb4⟩ := (HN.out.below hb3).after hf4 (hrep4.move_F fun b hb => .inl hb) (Nat.le_trans hbz' hb3.size) rfl (HB'.out.trans (hb3.mono HB'.out.size)); have y1 := (hf4.cell (World.block_lt_of_cell? _ _ z1) (fun hc => absurd hc.2.1 (Nat.lt_irrefl _))).trans z1; have HN4 := Lib.hid hn4; have HR4 := Lib.hid hr4; have HB4 := Lib.hid hb4; clear hrep4 hf4 hn4 hr4 hb4))
                  rw [HDA.out] at HR4
                  go_meet
                  case rel => exact ⟨lw, ⟨us, HN4.out, HR4.out, HB4.out⟩, by omega, HGD.out, y1⟩
                · have hda : dropAt lw l[k].f1 = lw.eraseIdx i := by simp [dropAt, hix]
                  have hd0 : hasIx lw l[k].f1 = true := by simp [hasIx, hix]
                  have HIX := Lib.hid hix
                  have HDA := Lib.hid hda
                  have HD0 := Lib.hid hd0
                  clear hda hd0
                  go_wp2_with (first
                    | (go_at_call 15; refine (find_calls l[k].f1 HR6b.out hc6 hl1m).mono ?_; rintro e w3 ⟨rfl, hd3⟩; have hb3 := hd3.below; have z1 := (hb3.cell (World.block_lt_of_cell? _ _ x1)).trans x1)
                    | (go_at_call 16; refine (drop_any l[k].f1 (HW.out.below hb3) hl1k).mono ?_; rintro e w4 ⟨rfl, hrep4, hf4⟩; rw [HD0.out]; obtain ⟨hn4, hr4, hb4⟩ := (HN.out.below hb3).after hf4 (hrep4.move_F fun b hb => .inl hb) (Nat.le_trans hbz' hb3.size) rfl (HB'.out.trans (hb3.mono HB'.out.size)); have y1 := (hf4.cell (World.block_lt_of_cell? _ _ z1) (fun hc => absurd hc.2.1 (Nat.lt_irrefl _))).trans z1; have HN4 := Lib.hid hn4; have HR4 := Lib.hid hr4; have HB4 := Lib.hid hb4; clear hrep4 hf4 hn4 hr4 hb4))
                  obtain ⟨g, cap, eg⟩ := own_pos HN4.out.2.1 (by omega)
                  cases eg
                  obtain ⟨n, hn⟩ : ∃ n, n = lw.length := ⟨_, rfl⟩
                  rw [← hn]
                  have hil' : i < n := by omega
                  have hn1k : n ≤ 1000 := by omega
                  have hnc : n ≤ c6 := by omega
                  have hic : i ≤ c6 := by omega
                  have hjn : i + 1 ≤ n := by omega
                  have hjc : i + 1 ≤ c6 := by omega
                  have hq0 : (0 : Int) ≤ (i : Int) + 1 := by omega
                  have hq1 : (i : Int) + 1 ≤ (n : Int) := by omega
                  obtain ⟨A, hA⟩ : ∃ A : Addr, (if c6 = i + 1 then some (⟨g, 0, none⟩ : Addr) else some ⟨g, (i + 1) * 3, none⟩) = some A := by
                    by_cases h : c6 = i + 1
                    · exact ⟨_, by rw [if_pos h]⟩
                    · exact ⟨_, by rw [if_neg h]⟩
                  have hq2 : (i : Int) + 1 ≤ (c6 : Int) := by omega
                  have hwr1 : IntKind.i64.wrap ((i : Int) + 1) = (i : Int) + 1 := IntWalk.i64_in _ (by omega)
                  have hto : ((i : Int) + 1).toNat = i + 1 := by omega
                  have hl1 : ((ncells lw us).take (i * 3)).length = i * 3 := by rw [List.length_take, ncells_length HN4.out.1]; omega
                  have hl2 : ((ncells lw us).drop ((i + 1) * 3)).length = (n - (i + 1)) * 3 := by rw [List.length_drop, ncells_length HN4.out.1]; omega
                  have hcells : ∀ (x : World), x.heap[g]? = w4.heap[g]? → ∀ j u, (ncells lw us)[j]? = some u → x.cell? ⟨g, j, none⟩ = some u := fun x hx j u hu => by
                    have h0 := HN4.out.2.1.cells (g := g) rfl j u hu
                    rw [add0] at h0
                    exact (World.cell?_of_block hx).trans h0
                  have hs1 : ∀ (x : World), x.heap[g]? = w4.heap[g]? → ∀ j u, ((ncells lw us).take (i * 3))[j]? = some u → x.cell? ((⟨g, 0, none⟩ : Addr).add j) = some u := fun x hx j u hu => by
                    rw [List.getElem?_take] at hu
                    split at hu
                    · rw [add0]; exact hcells x hx j u hu
                    · cases hu
                  have hs2 : ∀ (x : World), x.heap[g]? = w4.heap[g]? → ∀ j u, ((ncells lw us).drop ((i + 1) * 3))[j]? = some u → x.cell? (A.add j) = some u := fun x hx j u hu => by
                    by_cases h : c6 = i + 1
                    · rw [List.eq_nil_of_length_eq_zero (l := (ncells lw us).drop ((i + 1) * 3)) (by rw [hl2]; omega)] at hu
                      simp at hu
                    · rw [if_neg h] at hA
                      cases hA
                      rw [List.getElem?_drop] at hu
                      rw [addk']
                      exact hcells x hx _ u hu
                  have hgl : g < w4.heap.size := (HN4.out.lt (.inl rfl)).2
                  have h1c : ∀ u ∈ ncells lw us, u.oneCell' = true := ncells_one fun u hu => by
                    obtain ⟨j, hj⟩ := List.getElem?_of_mem hu
                    have hjl : j < lw.length := by rw [← HN4.out.1]; exact (List.getElem?_eq_some_iff.1 hj).1
                    obtain ⟨_, _, rfl, _⟩ := own_slice (HN4.out.2.2 j lw[j] u (List.getElem?_eq_getElem hjl) hj)
                    rfl
                  have HS1 := Lib.hid hs1
                  have HS2' := Lib.hid hs2
                  have HL1 := Lib.hid hl1
                  have HL2 := Lib.hid hl2
                  have H1C := Lib.hid h1c
                  have HHN := Lib.hid hn
                  obtain ⟨i0, hii0, hz0, hz1, hz2⟩ := info_parts info_oneL
                  clear hn hil hcells hs1 hs2 hl1 hl2 h1c
                  go_region_law ((first
                    | (refine step_append_own rfl (.tmp 59) (.tmp 62) 41 rfl w4.heap.size 44 i0 _ 3 56 Try.underlying41 hii0 hz0 hz1 hz2 rfl (by decide) (.slice (some ⟨w4.heap.size, 0, none⟩) 0 0) 0 [] rfl (own_empty _ _ _) ⟨g, 0, none⟩ i c6 ((ncells lw us).take (i * 3)) rfl HL1.out (HS1.out _ (Below.heap_alloc _ _ _ hgl)) (fun u hu => H1C.out u (List.mem_of_mem_take hu)) (by unfold maxLen; omega) (by omega) (by show w4.heap.size ≤ (w4.alloc _).heap.size; rw [asz]; omega) ?_; intro v5 w5 ho5 hg5 hn5 hat5)
                    | (refine step_append_own rfl (.tmp 63) (.tmp 67) 41 rfl w4.heap.size 44 i0 _ 3 56 Try.underlying41 hii0 hz0 hz1 hz2 rfl (by decide) v5 (0 + i) ([] ++ (ncells lw us).take (i * 3)) rfl ho5 A (n - (i + 1)) (c6 - (i + 1)) ((ncells lw us).drop ((i + 1) * 3)) (by simp [Act.eval, Act.put]) HL2.out (HS2'.out _ (drop_block hg5 hgl)) (fun u hu => H1C.out u (List.mem_of_mem_drop hu)) (by unfold maxLen; omega) (by omega) (drop_size hg5) ?_; intro v6 w6 ho6 hg6 hn6 hat6)))
                  go_wp2_with fail
                  go_meet
                  case rel =>
                    have h46 : Below w4.heap.size w4 w6 := ((((((Fr.of_below (S := fun _ => False) (Below.refl w4.heap.size w4)).alloc _).drew).grown hg5 fun b hb => .inl (by cases hb; exact Nat.le_refl _)).grown hg6 fun b hb => .inl (ho5.lt b hb).1)).to_below (Nat.le_refl _) fun _ _ h => h
                    have hrr := HR4.out
                    rw [HDA.out] at hrr
                    have hel := List.length_eraseIdx_le lw i
                    refine ⟨lw.eraseIdx i, PlRel.erase HN4.out hrr HB4.out (by rw [← HHN.out]; exact hil') h46 ho6 (by rw [← HHN.out]; omega), by omega, fun x hx => HGD.out x (List.mem_of_mem_eraseIdx hx), (h46.cell (World.block_lt_of_cell? _ _ y1)).trans y1⟩
          case rest =>
            obtain ⟨lw', hpl', hlw', hgood', hid⟩ := hcut
            have HPL' := Lib.hid hpl'
            have HGD' := Lib.hid hgood'
            obtain ⟨us, hN, hW, hB'⟩ := hpl'
            obtain ⟨A6, c6, rfl, hc6, hr6⟩ := hN.read (by omega) (fun x hx => by have := (hgood' x hx).1; omega)
            have HW := Lib.hid hW
            have HR6 := Lib.hid hr6
            have hmlen : (srt (lackL lw' lw'.length)).length ≤ 1000000 := by
              have h1 := srt_length (lackL lw' lw'.length)
              have h2 := lackL_length (lw := lw') (fun x hx => Nat.le_trans (hgood' x hx).1 (by omega)) (Nat.le_refl _)
              omega
            have hbx := (Below.refl wc.heap.size wc).drew
            have hidx : wc.drew.cell? ⟨wr.heap.size, 1, none⟩ = some (.string l[k].f1) := hid
            clear hN hW hr6 hgood'
            go_wp2_with fail
            go_region_held3 (fun x => x.cell? ⟨wr.heap.size, 1, none⟩ = some (.string l[k].f1) ∧ Below wc.heap.size wc x) (first | (refine ⟨?_, ?_⟩ <;> assumption) | go_keep)
              (first
                | (go_at_call 10; refine (len_any (HW.out.below ?_)).mono ?_; assumption; rintro e w' ⟨rfl, rfl⟩)
                | (go_at_call 17; refine (has_dec l[k].f1 (HW.out.below ?_) ?_).mono ?_; assumption; (unfold maxLen; omega); rintro e w' ⟨rfl, hb5⟩; obtain ⟨hs5, hx5⟩ := keepB (by assumption) (by assumption) hb5)
                | (go_at_call 15; refine (find_calls l[k].f1 (Kd.C_below HR6.out ?_) hc6 ?_).mono ?_; assumption; omega; rintro e w' ⟨rfl, hd6⟩; have hb6 := hd6.below; obtain ⟨hs6, hx6⟩ := keepB (by assumption) (by assumption) hb6)
                | (go_at_call 14; refine (missing_any (HW.out.below ?_) ?_ ?_ ?_).mono ?_; assumption; omega; (exact fun x hx => Nat.le_trans (HGD'.out x hx).1 (by omega)); (exact fun x hx => (HGD'.out x hx).2); rintro e w7 ⟨v7, r7, rfl, hri7, hnd7, hla7, hown7, hb7⟩; obtain ⟨hs7, hx7⟩ := keepB (by assumption) (by assumption) hb7; obtain rfl := missing_same hri7 hnd7 hla7)
                | (go_at_call 19; refine (missing_calls (Kd.C_below HR6.out ?_) hc6 ?_ ?_).mono ?_; assumption; omega; (exact fun x hx => Nat.le_trans (HGD'.out x hx).1 (by omega)); rintro e w8 ⟨v8, rfl, hown8, hb8⟩; obtain ⟨hs8, hx8⟩ := keepB (by assumption) (by assumption) hb8; obtain ⟨A7, c7, rfl, hc7, hr7, _⟩ := own_read (own_below hown7 hb8) hmlen; obtain ⟨A8, c8, rfl, hc8, hr8, _⟩ := own_read hown8 hmlen)
                | (go_at_call 18; refine (same_true hr7 hc7 hr8 hc8 hmlen).mono ?_; rintro e w9 ⟨rfl, hb9⟩; obtain ⟨hs9, hx9⟩ := keepB (by assumption) (by assumption) hb9))
            go_wp2_with fail
            go_roundw
            case rel =>
              exact ⟨k + 1, lw', by omega, by go_num, HPL'.out.keep hx9, hlw', HGD'.out⟩
            case measure => simp [intOf]; omega
        · obtain rfl : k = l.length := by omega
          obtain ⟨us, _, _, hb⟩ := hpl
          go_wp2_with fail
          go_ret
          exact ⟨rfl, hb⟩

end Go.Proofs.Ytaecjkffemmpcaa
