/- The model of palaverlaw09: crash. -/
import Derived.Test.YtdogmcpmlglkfaaM3
namespace Go.Proofs.Ytdogmcpmlglkfaa
open Go.RowKit Go.Proofs.YtdogmcpmlglkfaaW.PrintWords Go.Proofs.Ytdogmcpmlglkfaa.PRef

def mcr (keep : List Int) (fs : List DFile) (k : Nat) : List DFile := fs.mapIdx fun j f => if j < k then crash1 keep j f else f

theorem mcr_length (keep : List Int) (fs : List DFile) (k : Nat) : (mcr keep fs k).length = fs.length := by simp [mcr]
theorem mcr_zero (keep : List Int) (fs : List DFile) : mcr keep fs 0 = fs := by
  apply List.ext_getElem?
  intro j
  unfold mcr
  rw [List.getElem?_mapIdx]
  cases fs[j]? <;> simp
theorem mcr_at (keep : List Int) {fs : List DFile} {k : Nat} (h : k < fs.length) : (mcr keep fs k).getD k zfile = fs.getD k zfile := by
  unfold mcr
  rw [List.getD_eq_getElem?_getD, List.getD_eq_getElem?_getD, List.getElem?_mapIdx, List.getElem?_eq_getElem h]
  simp
theorem mcr_step (keep : List Int) {fs : List DFile} {k n : Nat} (h : k < fs.length) (hn : crashN keep k (fs.getD k zfile) = n) : putF (mcr keep fs k) k ((fs.getD k zfile).data.extract 0 n) n = mcr keep fs (k + 1) := by
  unfold putF
  rw [mcr_at keep h]
  apply List.ext_getElem?
  intro j
  rw [List.getElem?_set]
  unfold mcr
  rw [List.getElem?_mapIdx, List.getElem?_mapIdx, List.length_mapIdx]
  by_cases hj : k = j
  · subst hj
    rw [if_pos rfl, if_pos h, List.getElem?_eq_getElem h, Option.map_some, if_pos (Nat.lt_succ_self k)]
    have e : fs.getD k zfile = fs[k] := by simp [List.getD_eq_getElem?_getD, List.getElem?_eq_getElem h]
    rw [← e]
    unfold crash1
    rw [hn]
  · rw [if_neg hj]
    cases fs[j]? with
    | none => rfl
    | some f =>
      simp only [Option.map_some]
      by_cases h1 : j < k
      · rw [if_pos h1, if_pos (by omega)]
      · rw [if_neg h1, if_neg (by omega)]

def mcrash (m : DSt) (keep : List Int) : DSt := { m with off := false, armed := false, fs := mcr keep m.fs m.fs.length }

theorem crashN_done {keep : List Int} {i : Nat} {f : DFile} {kk : Nat} (hs : f.safe + kk ≤ f.data.size) (h0 : kk = 0 ∨ (i < keep.length ∧ (kk : Int) ≤ keep.getD i 0)) (hc : ¬ i < keep.length ∨ keep.getD i 0 ≤ (kk : Int) ∨ f.data.size ≤ f.safe + kk) : crashN keep i f = f.safe + kk := by
  unfold crashN
  by_cases hl : i < keep.length
  · rcases hc with hc | hc | hc
    · exact absurd hl hc
    · rcases h0 with rfl | ⟨_, h0⟩
      · rw [if_neg (by omega)]; omega
      · split <;> omega
    · rcases h0 with rfl | ⟨_, h0⟩
      · split <;> omega
      · split <;> omega
  · have : keep.getD i 0 = 0 := by rw [List.getD_eq_getElem?_getD, List.getElem?_eq_none (by omega)]; rfl
    rw [this, if_neg (by decide)]
    rcases h0 with rfl | ⟨h, _⟩
    · rfl
    · exact absurd h hl

theorem mrep_fs {w : World} {B q n c : Nat} {A : Option Addr} {s s' : DSt} (h : MRep w B q (.slice A n c) s) (e : s = s') : MRep w B q (.slice A n c) s' := e ▸ h

set_option maxHeartbeats 4000000 in
set_option maxRecDepth 100000 in
theorem mcrash_any {w : World} {B q n : Nat} {V : Value} {m : DSt} {A : Option Addr} {c : Nat} (keep : List Int) (h : MRep w B q V m) (hok : DOk n m) (hn : n ≤ 1000) (hc : keep.length ≤ c) (hr : Kd.C (Kd.int .i64) w A keep.length keep) (hA : ∀ ad, A = some ad → 0 < keep.length → ad.block < B) :
    Calls Try.prog 21 #[.pointer (some ⟨q, 0, none⟩), .slice A keep.length c] w fun e w' => e = .returned (.tuple #[]) ∧ MEx w' B q (mcrash m keep) ∧ Below B w w' := by
  have hB : B ≤ w.heap.size := Nat.le_trans h.1 (Nat.le_of_lt h.lt)
  obtain ⟨c0, c1, c2, c3, c4, cf⟩ := box5 h.2.1
  have cf2 := cf 2
  have cf3 := cf 3
  have H := Lib.hid h
  have HR := Lib.hid hr
  have HA := Lib.hid hA
  have HOK := Lib.hid hok
  have hml : m.fs.length ≤ 1000 := Nat.le_trans hok.len hn
  obtain ⟨m0, hm0⟩ : ∃ m0 : DSt, m0 = { m with off := false, armed := false } := ⟨_, rfl⟩
  have hfs : m0.fs = m.fs := by rw [hm0]
  have HM0 := Lib.hid hm0
  obtain ⟨A0, c0', hV, hcV⟩ := own_slice h.2.2
  subst hV
  clear cf h hr hA hok hm0
  go_enter Try.func21, Try.ntmps21
  go_upto_region 2 with fail
  obtain ⟨wb, hwb⟩ : ∃ wb, wb = (w.setCell ⟨q, 2, none⟩ (.bool false)).setCell ⟨q, 3, none⟩ (.bool false) := ⟨_, rfl⟩
  have hmb : MRep wb B q (.slice A0 m.fs.length c0') m0 := by
    rw [hwb, HM0.out]
    exact MRep.set (s := { m with off := false }) (H.out.set 2 _ rfl rfl) 3 _ rfl rfl
  have HMB := Lib.hid hmb
  have HBB := Lib.hid (show Below B w wb by rw [hwb]; exact ((Below.refl _ _).setCell (p := ⟨q, 2, none⟩) H.out.1 _).setCell (p := ⟨q, 3, none⟩) H.out.1 _)
  rw [← hwb]
  clear hwb hmb c0 c1 c2 c3 c4 cf2 cf3
  go_wp2_with fail
  go_loopw [4, 5, 6] (fun i _ _ wr => ∃ j : Nat, j ≤ m.fs.length ∧ i = .int .i64 j ∧ MRep wr B q (.slice A0 m.fs.length c0') { m0 with fs := mcr keep m.fs j } ∧ Below B w wr) (fun i _ _ _ => m.fs.length - (intOf i).toNat)
  case atStart => exact ⟨0, Nat.zero_le _, rfl, mrep_fs HMB.out (by rw [mcr_zero, ← hfs]), HBB.out⟩
  case round =>
    obtain ⟨j, hj, rfl, hmr, hbr⟩ := hrel
    have HMR := Lib.hid hmr
    have HBR := Lib.hid hbr
    obtain ⟨_, d1, _, _, _, _⟩ := box5 hmr.2.1
    clear hbr hmr
    by_cases hlt : j < m.fs.length
    · obtain ⟨g, cap, e, hcap, hBg, hgl, hgq, f0, f1, f2, ff⟩ := HMR.out.file' (k := j) (by show j < (mcr _ _ _).length; rw [mcr_length]; exact hlt)
      simp only [mcr_at keep hlt] at f0 f1 f2
      simp only [Value.slice.injEq] at e
      obtain ⟨rfl, he2, rfl⟩ := e
      clear he2
      simp only [mcr_length] at hcap
      obtain ⟨f, hf⟩ : ∃ f, f = m.fs.getD j zfile := ⟨_, rfl⟩
      rw [← hf] at f0 f1 f2
      have HF := Lib.hid hf
      have hfs2 : f.safe ≤ f.data.size := by rw [hf]; exact (HOK.out.file _ (getD_mem hlt)).2
      have hfsz : f.data.size ≤ 4194304 := by
        have h1 := HOK.out.use
        have h2 := HOK.out.room
        have h3 := used_mem (getD_mem hlt)
        rw [hf]; omega
      have ff1 := ff (j * 3 + 1)
      have ff2 := ff (j * 3 + 2)
      clear ff hf
      go_wp2_with fail
      obtain ⟨wo, rfl⟩ : ∃ wo : World, wo = wr := ⟨_, rfl⟩
      go_loopw [5, 6] (fun nv kv wr => ∃ kk : Nat, nv = .int .i64 ((f.safe + kk : Nat) : Int) ∧ kv = .int .i64 kk ∧ f.safe + kk ≤ f.data.size ∧ (kk = 0 ∨ (j < keep.length ∧ (kk : Int) ≤ keep.getD j 0)) ∧ wr = wo) (fun nv _ _ => f.data.size - (intOf nv).toNat)
      case atStart => exact ⟨0, rfl, rfl, hfs2, .inl rfl, rfl⟩
      case round =>
        obtain ⟨kk, rfl, rfl, hs, h0, rfl⟩ := hrel
        by_cases hkl : j < keep.length
        · obtain ⟨adk, rfl, hck⟩ := at_i64 HR.out hkl
          have hgd : keep.getD j 0 = keep[j] := by simp [List.getD_eq_getElem?_getD, List.getElem?_eq_getElem hkl]
          have hck' := (HBR.out.cell (p := adk.add j) (by rw [addr_block]; exact HA.out adk rfl (by omega))).trans hck
          obtain ⟨kj, hkj⟩ : ∃ kj, kj = keep[j] := ⟨_, rfl⟩
          rw [← hkj] at hck' hgd
          have HGD := Lib.hid hgd
          clear hck hgd hkj
          by_cases h1 : (kk : Int) < kj
          · by_cases h2 : f.safe + kk < f.data.size
            · have hk1 : (j : Int) < (keep.length : Int) := by omega
              go_wp2_with fail
              exact ⟨⟨kk + 1, by go_num, by go_num, by omega, .inr ⟨hkl, by rw [HGD.out]; omega⟩, trivial⟩, by simp [intOf]; omega⟩
            · have hk1 : (j : Int) < (keep.length : Int) := by omega
              have hN := crashN_done hs h0 (.inr (.inr (by omega)))
              obtain ⟨nn, hnn⟩ : ∃ nn, nn = f.safe + kk := ⟨_, rfl⟩
              rw [← hnn] at hN
              have hnle : nn ≤ f.data.size := by omega
              have HNN := Lib.hid hN
              rw [← hnn]
              try rw [← hnn] at h2
              clear hN hnn hs h0
              go_wp2_with fail
              go_still_tail 15, (by kernel_rfl)
              change wpList _ _ _ _ _ wr.drew
              go_upto_region 11 with fail
              obtain ⟨wz, hwz⟩ : ∃ wz, wz = (wr.setCell ⟨g, j * 3 + 1, none⟩ (.string (f.data.extract 0 nn))).drew := ⟨_, rfl⟩
              have hmz : MRep wz B q (.slice (some ⟨g, 0, none⟩) m.fs.length c0') { m0 with fs := putF (mcr keep m.fs j) j (f.data.extract 0 nn) ((mcr keep m.fs j).getD j zfile).safe } := by
                rw [hwz]
                exact MRep.drew (HMR.out.setFile (j * 3 + 1) (.string (f.data.extract 0 nn)) _ (putF_length _ _ _ _) (fcells_data (by rw [mcr_length]; exact hlt) _))
              have HMZ := Lib.hid hmz
              have HBZ := Lib.hid (show Below B w wz by rw [hwz]; exact (Below.setCell HBR.out (p := ⟨g, j * 3 + 1, none⟩) hBg _).drew)
              obtain ⟨_, d1z, _, _, _, _⟩ := box5 hmz.2.1
              have hjl : j < (putF (mcr keep m.fs j) j (f.data.extract 0 nn) ((mcr keep m.fs j).getD j zfile).safe).length := by rw [putF_length, mcr_length]; exact hlt
              obtain ⟨zv, f2z⟩ : ∃ zv : Int, wz.cell? ⟨g, j * 3 + 2, none⟩ = some (.int .i64 zv) := ⟨_, by have h := hmz.2.2.cells (g := g) rfl (j * 3 + 2) _ (fcells_at hjl).2.2; rw [add0] at h; exact h⟩
              clear hjl
              have ffz : wz.frozen? ⟨g, j * 3 + 2, none⟩ = false := by
                obtain ⟨cur, hc⟩ := own_kind hmz.2.2 (g := g) rfl
                simp [World.frozen?, hc]
              have hj1 : (0 : Int) ≤ (j : Int) := by omega
              have hj2 : (j : Int) < (m.fs.length : Int) := by omega
              rw [← hwz]
              clear hwz hmz
              go_wp2_with fail
              refine ⟨⟨j + 1, by omega, by go_num, ?_, Below.setCell HBZ.out (p := ⟨g, j * 3 + 2, none⟩) hBg _⟩, by simp [intOf]; omega⟩
              have h1 := HMZ.out.setFile (j * 3 + 2) (.int .i64 (nn : Nat)) _ (putF_length _ _ _ _) (fcells_safe (by show j < (putF _ _ _ _).length; rw [putF_length, mcr_length]; exact hlt) nn)
              rw [putF_putF (by rw [mcr_length]; exact hlt)] at h1
              refine mrep_fs h1 ?_
              congr 1
              have h2 := mcr_step keep hlt (n := nn) (by rw [← HF.out]; exact HNN.out)
              rw [← HF.out] at h2
              exact h2
          · have hk1 : (j : Int) < (keep.length : Int) := by omega
            have hN := crashN_done hs h0 (.inr (.inl (by rw [HGD.out]; omega)))
            obtain ⟨nn, hnn⟩ : ∃ nn, nn = f.safe + kk := ⟨_, rfl⟩
            rw [← hnn] at hN
            have hnle : nn ≤ f.data.size := by omega
            have HNN := Lib.hid hN
            rw [← hnn]
            try rw [← hnn] at h2
            clear hN hnn hs h0
            go_wp2_with fail
            go_still_tail 15, (by kernel_rfl)
            change wpList _ _ _ _ _ wr.drew
            go_upto_region 11 with fail
            obtain ⟨wz, hwz⟩ : ∃ wz, wz = (wr.setCell ⟨g, j * 3 + 1, none⟩ (.string (f.data.extract 0 nn))).drew := ⟨_, rfl⟩
            have hmz : MRep wz B q (.slice (some ⟨g, 0, none⟩) m.fs.length c0') { m0 with fs := putF (mcr keep m.fs j) j (f.data.extract 0 nn) ((mcr keep m.fs j).getD j zfile).safe } := by
              rw [hwz]
              exact MRep.drew (HMR.out.setFile (j * 3 + 1) (.string (f.data.extract 0 nn)) _ (putF_length _ _ _ _) (fcells_data (by rw [mcr_length]; exact hlt) _))
            have HMZ := Lib.hid hmz
            have HBZ := Lib.hid (show Below B w wz by rw [hwz]; exact (Below.setCell HBR.out (p := ⟨g, j * 3 + 1, none⟩) hBg _).drew)
            obtain ⟨_, d1z, _, _, _, _⟩ := box5 hmz.2.1
            have hjl : j < (putF (mcr keep m.fs j) j (f.data.extract 0 nn) ((mcr keep m.fs j).getD j zfile).safe).length := by rw [putF_length, mcr_length]; exact hlt
            obtain ⟨zv, f2z⟩ : ∃ zv : Int, wz.cell? ⟨g, j * 3 + 2, none⟩ = some (.int .i64 zv) := ⟨_, by have h := hmz.2.2.cells (g := g) rfl (j * 3 + 2) _ (fcells_at hjl).2.2; rw [add0] at h; exact h⟩
            clear hjl
            have ffz : wz.frozen? ⟨g, j * 3 + 2, none⟩ = false := by
              obtain ⟨cur, hc⟩ := own_kind hmz.2.2 (g := g) rfl
              simp [World.frozen?, hc]
            have hj1 : (0 : Int) ≤ (j : Int) := by omega
            have hj2 : (j : Int) < (m.fs.length : Int) := by omega
            rw [← hwz]
            clear hwz hmz
            go_wp2_with fail
            refine ⟨⟨j + 1, by omega, by go_num, ?_, Below.setCell HBZ.out (p := ⟨g, j * 3 + 2, none⟩) hBg _⟩, by simp [intOf]; omega⟩
            have h1 := HMZ.out.setFile (j * 3 + 2) (.int .i64 (nn : Nat)) _ (putF_length _ _ _ _) (fcells_safe (by show j < (putF _ _ _ _).length; rw [putF_length, mcr_length]; exact hlt) nn)
            rw [putF_putF (by rw [mcr_length]; exact hlt)] at h1
            refine mrep_fs h1 ?_
            congr 1
            have h2 := mcr_step keep hlt (n := nn) (by rw [← HF.out]; exact HNN.out)
            rw [← HF.out] at h2
            exact h2
        · have hk1 : ¬ (j : Int) < (keep.length : Int) := by omega
          have hN := crashN_done hs h0 (.inl hkl)
          obtain ⟨nn, hnn⟩ : ∃ nn, nn = f.safe + kk := ⟨_, rfl⟩
          rw [← hnn] at hN
          have hnle : nn ≤ f.data.size := by omega
          have HNN := Lib.hid hN
          rw [← hnn]
          try rw [← hnn] at h2
          clear hN hnn hs h0
          go_wp2_with fail
          go_still_tail 15, (by kernel_rfl)
          change wpList _ _ _ _ _ wr.drew
          go_upto_region 11 with fail
          obtain ⟨wz, hwz⟩ : ∃ wz, wz = (wr.setCell ⟨g, j * 3 + 1, none⟩ (.string (f.data.extract 0 nn))).drew := ⟨_, rfl⟩
          have hmz : MRep wz B q (.slice (some ⟨g, 0, none⟩) m.fs.length c0') { m0 with fs := putF (mcr keep m.fs j) j (f.data.extract 0 nn) ((mcr keep m.fs j).getD j zfile).safe } := by
            rw [hwz]
            exact MRep.drew (HMR.out.setFile (j * 3 + 1) (.string (f.data.extract 0 nn)) _ (putF_length _ _ _ _) (fcells_data (by rw [mcr_length]; exact hlt) _))
          have HMZ := Lib.hid hmz
          have HBZ := Lib.hid (show Below B w wz by rw [hwz]; exact (Below.setCell HBR.out (p := ⟨g, j * 3 + 1, none⟩) hBg _).drew)
          obtain ⟨_, d1z, _, _, _, _⟩ := box5 hmz.2.1
          have hjl : j < (putF (mcr keep m.fs j) j (f.data.extract 0 nn) ((mcr keep m.fs j).getD j zfile).safe).length := by rw [putF_length, mcr_length]; exact hlt
          obtain ⟨zv, f2z⟩ : ∃ zv : Int, wz.cell? ⟨g, j * 3 + 2, none⟩ = some (.int .i64 zv) := ⟨_, by have h := hmz.2.2.cells (g := g) rfl (j * 3 + 2) _ (fcells_at hjl).2.2; rw [add0] at h; exact h⟩
          clear hjl
          have ffz : wz.frozen? ⟨g, j * 3 + 2, none⟩ = false := by
            obtain ⟨cur, hc⟩ := own_kind hmz.2.2 (g := g) rfl
            simp [World.frozen?, hc]
          have hj1 : (0 : Int) ≤ (j : Int) := by omega
          have hj2 : (j : Int) < (m.fs.length : Int) := by omega
          rw [← hwz]
          clear hwz hmz
          go_wp2_with fail
          refine ⟨⟨j + 1, by omega, by go_num, ?_, Below.setCell HBZ.out (p := ⟨g, j * 3 + 2, none⟩) hBg _⟩, by simp [intOf]; omega⟩
          have h1 := HMZ.out.setFile (j * 3 + 2) (.int .i64 (nn : Nat)) _ (putF_length _ _ _ _) (fcells_safe (by show j < (putF _ _ _ _).length; rw [putF_length, mcr_length]; exact hlt) nn)
          rw [putF_putF (by rw [mcr_length]; exact hlt)] at h1
          refine mrep_fs h1 ?_
          congr 1
          have h2 := mcr_step keep hlt (n := nn) (by rw [← HF.out]; exact HNN.out)
          rw [← HF.out] at h2
          exact h2
    · obtain rfl : j = m.fs.length := by omega
      go_wp2_with fail
      go_end0
      have h9 := HMR.out
      rw [HM0.out] at h9
      exact ⟨rfl, ⟨_, h9⟩, HBR.out⟩

end Go.Proofs.Ytdogmcpmlglkfaa
