/- DiskPlays: the walk of the law. -/
import Derived.Test.YtdogmcpmlglkfaaM6
namespace Go.Proofs.Ytdogmcpmlglkfaa
open Go.RowKit Go.Proofs.YtdogmcpmlglkfaaW.PrintWords Go.Proofs.Ytdogmcpmlglkfaa.PRef

theorem MRep.fr {w w' : World} {B q p r : Nat} {V : Value} {m : DSt} (h : MRep w B q V m) (hf : DFr p r w w') (hp : p < B) (hr : r < B) : MRep w' B q V m :=
  ⟨h.1, (hf.block q h.lt (by have := h.1; rintro (e | e) <;> omega)).trans h.2.1, ownsRow_fr h.2.2 hf fun k hk => by have := (h.2.2.lt k hk).1; rintro (e | e) <;> omega⟩

theorem DRep.belowB {w w' : World} {B p r : Nat} {s : DSt} (h : DRep w p r s) (hb : Below B w w') (hp : p < B) (hr : r < B) : DRep w' p r s := h.move (hb.block p hp) (hb.block r hr)

theorem doS_read {s : DSt} {x : Act9} (h : x.f0 = 3) : doS s x = (readS s x.f1, s) := by
  rw [doS, if_neg (by omega), if_neg (by omega), if_neg (by omega), if_pos h]
theorem doS_arm {s : DSt} {x : Act9} (h : x.f0 = 4) : doS s x = ((⟨#[]⟩, 0), { s with armed := true, left := max x.f3 0 }) := by
  rw [doS, if_neg (by omega), if_neg (by omega), if_neg (by omega), if_neg (by omega), if_pos h]
theorem doS_crash {s : DSt} {x : Act9} (h0 : x.f0 ≠ 0) (h1 : x.f0 ≠ 1) (h2 : x.f0 ≠ 2) (h3 : x.f0 ≠ 3) (h4 : x.f0 ≠ 4) : doS s x = ((⟨#[]⟩, 0), crashS s x.f4 (snames s.fs)) := by
  rw [doS, if_neg h0, if_neg h1, if_neg h2, if_neg h3, if_neg h4]

theorem readS_empty (s : DSt) (nm : ByteArray) : (readS s nm).2 = 0 ∨ (readS s nm).1 = ⟨#[]⟩ := by
  unfold readS
  split
  · exact .inr rfl
  · split
    · exact .inr rfl
    · exact .inl rfl

theorem doS_empty (s : DSt) (x : Act9) : (doS s x).1.2 = 0 ∨ (doS s x).1.1 = ⟨#[]⟩ := by
  unfold doS
  split
  · exact .inr rfl
  · split
    · exact .inr rfl
    · split
      · exact .inr rfl
      · split
        · exact readS_empty _ _
        · split
          · exact .inr rfl
          · exact .inr rfl

theorem read_fix {s m : DSt} (h : Eqv s m) (hn : (s.fs.map (·.name)).Nodup) (nm : ByteArray) (ho : m.off = false) :
    (fix m.fs nm < 0 ∧ readS s nm = (⟨#[]⟩, 10)) ∨ ∃ i : Nat, fix m.fs nm = i ∧ ∃ hi : i < m.fs.length, readS s nm = (m.fs[i].data, 0) := by
  rcases fix_cases m.fs nm with ⟨h1, h2⟩ | ⟨i, h1, hi, h2⟩
  · refine .inl ⟨h1, ?_⟩
    unfold readS
    rw [← h.off, ho, if_neg (by decide), dget_no (fun hm => h2 ((h.fs.map _).mem_iff.2 hm))]
  · refine .inr ⟨i, h1, hi, ?_⟩
    rw [← h2, h.read hn hi, ho]
    rfl

theorem zero_model (w : World) (room : Int) : MRep (w.alloc (.cells (mcells ⟨room, false, 0, false, []⟩ (.slice none 0 0)) 41)) w.heap.size w.heap.size (.slice none 0 0) ⟨room, false, 0, false, []⟩ :=
  ⟨Nat.le_refl _, heap_alloc_new _ _, own_none _ _ _ _⟩

set_option maxHeartbeats 4000000 in
set_option maxRecDepth 100000 in
theorem dplays_walk (room : Int) (A1 : Option Addr) (c1 : Nat) (l : List Act9) (w : World) (hl1 : l.length ≤ c1) (hr1 : Kd.C k44 w A1 l.length l) (hsz : ∀ x ∈ l, x.f3 ≤ 9223372036854775807) :
    Calls Try.prog 5 #[.int .i64 room, .slice A1 l.length c1] w fun e w' => e = .returned (.bool true) ∧ Below w.heap.size w w' := by
  obtain ⟨rg, hsm, hgr⟩ := great9_calls hr1 hl1
  have HG := Lib.hid hgr
  have HR1 := Lib.hid hr1
  have HSZL := Lib.hid hsz
  clear hgr hr1 hsz
  go_enter Try.func5, Try.ntmps5
  go_wp2_with fail
  refine HG.out.mono ?_
  rintro e w1 ⟨rfl, hd⟩
  have hb1 := hd.below
  cases rg with
  | true =>
    go_wp2_with (go_at_call 8; refine (awake_any _).mono ?_; rintro e w2 ⟨rfl, hb2⟩)
    go_ret
    exact ⟨rfl, hb1.trans (hb2.mono hb1.size)⟩
  | false =>
    obtain ⟨hs1, hs2⟩ := hsm rfl
    clear hs2 HG hd
    by_cases hbad : room < 0 ∨ 4194304 < room
    · go_wp2_with (first
        | (go_at_call 8; refine (awake_any _).mono ?_; rintro e w2 ⟨rfl, hb2⟩)
        | (go_at_call 9; refine (new_bad room _ hbad).mono ?_; rintro e w3 ⟨rfl, rfl⟩))
      all_goals go_ret
      all_goals exact ⟨rfl, hb1.trans (hb2.mono hb1.size)⟩
    · have hr0 : 0 ≤ room := by omega
      have hr1' : room ≤ 4194304 := by omega
      have hn0 : ¬ room < 0 := by omega
      have hn1 : ¬ 4194304 < room := by omega
      clear hbad
      go_upto_region 6 with (first
        | (go_at_call 8; refine (awake_any _).mono ?_; rintro e w2 ⟨rfl, hb2⟩; have HB2 := Lib.hid (hb1.trans (hb2.mono hb1.size)); clear hb2)
        | (go_at_call 9; refine (new_ok room _ hr0 hr1').mono ?_; rintro e w3 ⟨p, r, rfl, hd3, hp0, hrr0, hb3⟩; have hp := Nat.le_trans HB2.out.size hp0; have hr := Nat.le_trans HB2.out.size hrr0; have HD3 := Lib.hid hd3; have HB3 := Lib.hid (HB2.out.trans (hb3.mono HB2.out.size)); clear hd3 hb3 hp0 hrr0))
      go_wp2_with fail
      obtain ⟨wq, hwq⟩ : ∃ wq, wq = w3.alloc (.cells #[.int .i64 room, .slice none 0 0, .bool false, .bool false, .int .i64 0] 41) := ⟨_, rfl⟩
      obtain ⟨B, hBq⟩ : ∃ B, B = w3.heap.size := ⟨_, rfl⟩
      have hpB : p < B := by rw [hBq]; exact HD3.out.lt
      have hrB : r < B := by rw [hBq]; exact HD3.out.2.lt
      have hwB : w.heap.size ≤ B := by omega
      have HQ := Lib.hid (show MEx wq B B ⟨room, false, 0, false, []⟩ by rw [hwq, hBq]; exact ⟨_, zero_model _ _⟩)
      have HDQ := Lib.hid (show DRep wq p r ⟨room, false, 0, false, []⟩ by rw [hwq]; exact HD3.out.below ((Below.refl _ _).alloc (Nat.le_refl _) _))
      have HBQ := Lib.hid (show Below w.heap.size w wq by rw [hwq]; exact HB3.out.alloc HB3.out.size _)
      have HOK0 := Lib.hid (show DOk 0 ⟨room, false, 0, false, []⟩ from ⟨Int.le_refl 0, of_decide_eq_true rfl, hr1', hr0, fun f hf => (by cases hf), Nat.le_refl _, List.nodup_nil⟩)
      have HE0 := Lib.hid (show Eqv ⟨room, false, 0, false, []⟩ ⟨room, false, 0, false, []⟩ from ⟨rfl, rfl, rfl, rfl, List.Perm.refl _, List.Pairwise.nil⟩)
      rw [← hwq, ← hBq]
      clear hwq hBq HD3 HB3 HB2 hb1
      go_loopw [7, 8, 9, 10, 11] (fun i _ _ _ _ wr => ∃ (j : Nat) (s m : DSt), j ≤ l.length ∧ i = .int .i64 j ∧ DRep wr p r s ∧ MEx wr B B m ∧ Eqv s m ∧ DOk j s ∧ Below w.heap.size w wr) (fun i _ _ _ _ _ => l.length - (intOf i).toNat)
      case atStart => exact ⟨0, _, _, Nat.zero_le _, rfl, HDQ.out, HQ.out, HE0.out, HOK0.out, HBQ.out⟩
      case round =>
        obtain ⟨j, s, m, hj, rfl, hdr, ⟨V, hmr⟩, heq, hok, hbr⟩ := hrel
        have HDR := Lib.hid hdr
        have HMR := Lib.hid hmr
        have HE := Lib.hid heq
        have HOK := Lib.hid hok
        have HBR := Lib.hid hbr
        clear HQ HDQ HBQ HOK0 HE0 hdr hmr heq hok
        by_cases hlt : j < l.length
        · obtain ⟨ad, A4, c4, rfl, hadb, k1, k2, k3, k4, k0, hc4, hr4⟩ := act9_at HR1.out hlt
          have j0 := (hbr.cell (p := ad.add (j * 5)) hadb).trans k0
          have j1 := (hbr.cell (p := ⟨(ad.add (j * 5)).block, (ad.add (j * 5)).off + 1, none⟩) hadb).trans k1
          have j2 := (hbr.cell (p := ⟨(ad.add (j * 5)).block, (ad.add (j * 5)).off + 2, none⟩) hadb).trans k2
          have j3 := (hbr.cell (p := ⟨(ad.add (j * 5)).block, (ad.add (j * 5)).off + 3, none⟩) hadb).trans k3
          have j4 := (hbr.cell (p := ⟨(ad.add (j * 5)).block, (ad.add (j * 5)).off + 4, none⟩) hadb).trans k4
          have HR4 := Lib.hid (Kd.C_below hr4 hbr)
          have HR4w := Lib.hid hr4
          have HNE := Lib.hid (fun ad e h0 => keep_ne hr4 (ad := ad) e h0 hp hr)
          have HKB := Lib.hid (fun (ad : Addr) (e : A4 = some ad) (h0 : 0 < l[j].f4.length) => Nat.lt_of_lt_of_le (keep_block hr4 e h0) hwB)
          have h3m := HSZL.out l[j] (List.getElem_mem hlt)
          obtain ⟨⟨⟨st, ev⟩, s'⟩, hR⟩ : ∃ R, R = doS s l[j] := ⟨_, rfl⟩
          have HDO := Lib.hid (do_any l[j] A4 c4 HDR.out HOK.out (by omega) hc4 HR4.out HNE.out)
          rw [← hR] at HDO
          have HRR := Lib.hid hR
          have HOK' := Lib.hid (show DOk (j + 1) s' by have h := HOK.out.done l[j] h3m; rw [← hR] at h; exact h)
          have hemp : ev = 0 ∨ st = ⟨#[]⟩ := by have h := doS_empty s l[j]; rw [← hR] at h; exact h
          have HEMP := Lib.hid hemp
          have HOKM := Lib.hid (HE.out.ok HOK.out)
          clear hr4 hbr hR hemp
          go_upto_block 2 with (go_at_call 18; refine HDO.out.mono ?_; rintro e w4 ⟨rfl, hd4, hf4⟩; have HD4 := Lib.hid hd4; have HB4 := Lib.hid (hf4.to_below HBR.out hp hr); have HM4 := Lib.hid (HMR.out.fr hf4 hpB hrB); clear hd4 hf4; have i0 := (HB4.out.cell (p := ad.add (j * 5)) hadb).trans k0)
          have i1 := (HB4.out.cell (p := ⟨(ad.add (j * 5)).block, (ad.add (j * 5)).off + 1, none⟩) hadb).trans k1
          have i2 := (HB4.out.cell (p := ⟨(ad.add (j * 5)).block, (ad.add (j * 5)).off + 2, none⟩) hadb).trans k2
          have i3 := (HB4.out.cell (p := ⟨(ad.add (j * 5)).block, (ad.add (j * 5)).off + 3, none⟩) hadb).trans k3
          have i4 := (HB4.out.cell (p := ⟨(ad.add (j * 5)).block, (ad.add (j * 5)).off + 4, none⟩) hadb).trans k4
          clear j0 j1 j2 j3 j4 k0 k1 k2 k3 k4
          go_cut [10, 11, 45, 53] (fun want _ _ _ wc => want = .int .i64 ev ∧ ∃ m' : Int × DSt, MEx wc B B m'.2 ∧ Eqv s' m'.2 ∧ DRep wc p r s' ∧ Below w.heap.size w wc)
          case first =>
           by_cases q0 : l[j].f0 = 0
           · skip
             have hmd := eqv_mdo HE.out HOK.out l[j] (.inl q0)
             rw [← HRR.out] at hmd
             have HMD := Lib.hid hmd.2.1
             have HMD2 := Lib.hid hmd.2.2
             have hdc := does_any l[j] A4 c4 HM4.out HOKM.out (by omega)
             rw [q0] at hdc
             have HDC := Lib.hid hdc
             clear hmd hdc
             go_wp2_with (go_at_call 19; refine HDC.out.mono ?_; rintro e w5 ⟨rfl, hm5, hb5⟩; rw [HMD.out]; have HM5 := Lib.hid hm5; have HB5 := Lib.hid hb5; clear hm5 hb5)
             go_meet
             case rel => exact ⟨rfl, mdo m l[j], HM5.out, HMD2.out, HD4.out.belowB HB5.out hpB hrB, HB4.out.trans (HB5.out.mono hwB)⟩
           · by_cases q1 : l[j].f0 = 1
             · skip
               have hmd := eqv_mdo HE.out HOK.out l[j] (.inr (.inl q1))
               rw [← HRR.out] at hmd
               have HMD := Lib.hid hmd.2.1
               have HMD2 := Lib.hid hmd.2.2
               have hdc := does_any l[j] A4 c4 HM4.out HOKM.out (by omega)
               rw [q1] at hdc
               have HDC := Lib.hid hdc
               clear hmd hdc
               go_wp2_with (go_at_call 19; refine HDC.out.mono ?_; rintro e w5 ⟨rfl, hm5, hb5⟩; rw [HMD.out]; have HM5 := Lib.hid hm5; have HB5 := Lib.hid hb5; clear hm5 hb5)
               go_meet
               case rel => exact ⟨rfl, mdo m l[j], HM5.out, HMD2.out, HD4.out.belowB HB5.out hpB hrB, HB4.out.trans (HB5.out.mono hwB)⟩
             · by_cases q2 : l[j].f0 = 2
               · skip
                 have hmd := eqv_mdo HE.out HOK.out l[j] (.inr (.inr q2))
                 rw [← HRR.out] at hmd
                 have HMD := Lib.hid hmd.2.1
                 have HMD2 := Lib.hid hmd.2.2
                 have hdc := does_any l[j] A4 c4 HM4.out HOKM.out (by omega)
                 rw [q2] at hdc
                 have HDC := Lib.hid hdc
                 clear hmd hdc
                 go_wp2_with (go_at_call 19; refine HDC.out.mono ?_; rintro e w5 ⟨rfl, hm5, hb5⟩; rw [HMD.out]; have HM5 := Lib.hid hm5; have HB5 := Lib.hid hb5; clear hm5 hb5)
                 go_meet
                 case rel => exact ⟨rfl, mdo m l[j], HM5.out, HMD2.out, HD4.out.belowB HB5.out hpB hrB, HB4.out.trans (HB5.out.mono hwB)⟩
               · by_cases q3 : l[j].f0 = 3
                 · have hrd := HRR.out.trans (doS_read q3)
                   simp only [Prod.mk.injEq] at hrd
                   obtain ⟨hrd, rfl⟩ := hrd
                   obtain ⟨F, hF⟩ : ∃ F, F = fix m.fs l[j].f1 := ⟨_, rfl⟩
                   have HFI := Lib.hid (mfind_any l[j].f1 HM4.out (Nat.le_trans HOKM.out.len (by omega)))
                   rw [← hF] at HFI
                   cases ho : m.off with
                   | true =>
                     have hrd2 : readS s' l[j].f1 = (⟨#[]⟩, 6) := by unfold readS; rw [← HE.out.off, ho]; rfl
                     rw [hrd2] at hrd
                     obtain ⟨rfl, rfl⟩ := Prod.mk.inj hrd
                     clear hrd hF
                     go_wp2_with (go_at_call 20; refine HFI.out.mono ?_; rintro e w5 ⟨rfl, hb5⟩; have HM5 := Lib.hid (HM4.out.below hb5); have HB5 := Lib.hid (hb5.mono HB4.out.size); have HD5 := Lib.hid (HD4.out.below hb5); obtain ⟨_, d1, d2, _, _, _⟩ := box5 HM5.out.2.1; rw [ho] at d2; clear hb5)
                     go_meet
                     case rel => exact ⟨rfl, (0, m), ⟨_, HM5.out⟩, HE.out, HD5.out, HB4.out.trans HB5.out⟩
                   | false =>
                     rcases read_fix HE.out HOK.out.nodup l[j].f1 ho with ⟨h1, h2⟩ | ⟨i, h1, hi, h2⟩
                     · rw [h2] at hrd
                       obtain ⟨rfl, rfl⟩ := Prod.mk.inj hrd
                       rw [← hF] at h1
                       clear hrd hF h2
                       go_wp2_with (go_at_call 20; refine HFI.out.mono ?_; rintro e w5 ⟨rfl, hb5⟩; have HM5 := Lib.hid (HM4.out.below hb5); have HB5 := Lib.hid (hb5.mono HB4.out.size); have HD5 := Lib.hid (HD4.out.below hb5); obtain ⟨_, d1, d2, _, _, _⟩ := box5 HM5.out.2.1; rw [ho] at d2; clear hb5)
                       go_meet
                       case rel => exact ⟨rfl, (0, m), ⟨_, HM5.out⟩, HE.out, HD5.out, HB4.out.trans HB5.out⟩
                     · rw [h2] at hrd
                       rw [h1] at hF
                       subst hF
                       obtain ⟨g, cap, e, hcap, hBg, hgl, hgq, f0, f1, f2⟩ := HM4.out.file hi
                       subst e
                       obtain ⟨dat, hdat⟩ : ∃ dat, dat = m.fs[i].data := ⟨_, rfl⟩
                       rw [← hdat] at hrd f1
                       obtain ⟨rfl, rfl⟩ := Prod.mk.inj hrd
                       clear hrd hdat h2 h1 f0 f2
                       go_wp2_with (go_at_call 20; refine HFI.out.mono ?_; rintro e w5 ⟨rfl, hb5⟩; have HM5 := Lib.hid (HM4.out.below hb5); have HB5 := Lib.hid (hb5.mono HB4.out.size); have HD5 := Lib.hid (HD4.out.below hb5); obtain ⟨_, d1, d2, _, _, _⟩ := box5 HM5.out.2.1; rw [ho] at d2; have y1 := (hb5.cell (World.block_lt_of_cell? _ _ f1)).trans f1; clear hb5)
                       go_meet
                       case rel => exact ⟨rfl, (0, m), ⟨_, HM5.out⟩, HE.out, HD5.out, HB4.out.trans HB5.out⟩
                 · by_cases q4 : l[j].f0 = 4
                   · have hrd := HRR.out.trans (doS_arm q4)
                     simp only [Prod.mk.injEq] at hrd
                     obtain ⟨⟨rfl, rfl⟩, rfl⟩ := hrd
                     obtain ⟨_, _, _, d3, d4, df⟩ := box5 HM4.out.2.1
                     have df3 := df 3
                     have df4 := df 4
                     clear df
                     go_wp2_with fail
                     go_meet
                     case rel =>
                       refine ⟨rfl, (0, { m with armed := true, left := max l[j].f3 0 }), ⟨_, MRep.set (s := { m with armed := true }) (s' := { m with armed := true, left := max l[j].f3 0 }) (HM4.out.set 3 (.bool true) rfl rfl) 4 (.int .i64 (max l[j].f3 0)) rfl rfl⟩, HE.out.arm _, HD4.out.belowB (((Below.refl B w4).setCell (p := ⟨B, 3, none⟩) (Nat.le_refl _) _).setCell (p := ⟨B, 4, none⟩) (Nat.le_refl _) _) hpB hrB, (HB4.out.setCell (p := ⟨B, 3, none⟩) hwB _).setCell (p := ⟨B, 4, none⟩) hwB _⟩
                   · have hrd := HRR.out.trans (doS_crash q0 q1 q2 q3 q4)
                     simp only [Prod.mk.injEq] at hrd
                     obtain ⟨⟨rfl, rfl⟩, rfl⟩ := hrd
                     have HR44 := Lib.hid (Kd.C_below HR4w.out HB4.out)
                     go_wp2_with (go_at_call 21; refine (mcrash_any l[j].f4 HM4.out HOKM.out (by omega) hc4 HR44.out HKB.out).mono ?_; rintro e w5 ⟨rfl, hm5, hb5⟩; have HM5 := Lib.hid hm5; have HB5 := Lib.hid hb5; clear hm5 hb5)
                     go_meet
                     case rel => exact ⟨rfl, (0, mcrash m l[j].f4), HM5.out, HE.out.crash HOK.out.nodup _, HD4.out.belowB HB5.out hpB hrB, HB4.out.trans (HB5.out.mono hwB)⟩
          case rest =>
            obtain ⟨rfl, ⟨_, m'⟩, ⟨V', hm'⟩, he', hd', hb'⟩ := hcut
            have HM' := Lib.hid hm'
            have HE' := Lib.hid he'
            have HD' := Lib.hid hd'
            have HB' := Lib.hid hb'
            clear hm' he' hd' hb' i0 i1 i2 i3 i4
            by_cases he0 : ev = 0
            · subst he0
              go_wp2_with (go_at_call 22; refine (same_any HD'.out HM'.out HE'.out HOK'.out (HE'.out.ok HOK'.out) (by omega)).mono ?_; rintro e w6 ⟨rfl, hb6⟩; have HB6 := Lib.hid hb6; clear hb6)
              go_roundw
              case rel => exact ⟨j + 1, s', m', by omega, by go_num, HD'.out.below HB6.out, ⟨V', HM'.out.below HB6.out⟩, HE'.out, HOK'.out, HB'.out.trans (HB6.out.mono HB'.out.size)⟩
              case measure => simp [intOf]; omega
            · obtain rfl : st = ⟨#[]⟩ := HEMP.out.resolve_left he0
              have heb : (ev != 0) = true := by simpa using he0
              go_wp2_with (go_at_call 22; refine (same_any HD'.out HM'.out HE'.out HOK'.out (HE'.out.ok HOK'.out) (by omega)).mono ?_; rintro e w6 ⟨rfl, hb6⟩; have HB6 := Lib.hid hb6; clear hb6)
              go_roundw
              case rel => exact ⟨j + 1, s', m', by omega, by go_num, HD'.out.below HB6.out, ⟨V', HM'.out.below HB6.out⟩, HE'.out, HOK'.out, HB'.out.trans (HB6.out.mono HB'.out.size)⟩
              case measure => simp [intOf]; omega
        · obtain rfl : j = l.length := by omega
          go_wp2_with fail
          go_ret
          exact ⟨rfl, HBR.out⟩

end Go.Proofs.Ytdogmcpmlglkfaa
