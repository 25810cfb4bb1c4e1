/- Walks of package disk: Names, Crash. -/
import Derived.Test.YtdogmcpmlglkfaaD3
import Derived.Test.YtdogmcpmlglkfaaKS
import Derived.Deep.CutBlock
import Derived.Deep.DeepCutAuto
namespace Go.Proofs.Ytdogmcpmlglkfaa
open Go.RowKit Go.Proofs.YtdogmcpmlglkfaaW.PrintWords

theorem names_nil (w : World) : Calls Try.prog 23 #[.pointer none] w fun e w' => e = .returned (.slice none 0 0) ∧ w' = w := by
  go_enter Try.func23, Try.ntmps23
  go_wp2
  go_ret
  exact ⟨rfl, rfl⟩

theorem dmap_keys (fs : List DFile) : (fs.map fent).map (·.1) = fs.map (·.name) := by rw [List.map_map]; rfl

theorem names_any {w : World} {p r : Nat} {s : DSt} (h : DRep w p r s) (hk : ∀ f ∈ s.fs, f.name.size ≤ maxLen) (hl : s.fs.length ≤ 1000000) :
    Calls Try.prog 23 #[.pointer (some ⟨p, 0, none⟩)] w fun e w' => ∃ (v : Value) (ns : List ByteArray), e = .returned v ∧ ns.Perm (s.fs.map (·.name)) ∧ Rising ns ∧ ns.Nodup ∧
      w'.ownsRow w.heap.size 9 1 v ns.length (ns.map Value.string) ∧ Below w.heap.size w w' := by
  obtain ⟨c0, c1, c2, c3, c4, cf⟩ := box5 h.1
  have HM := Lib.hid h.2
  have HK := Lib.hid (show ∀ q ∈ s.fs.map fent, q.1.size ≤ maxLen from fun q hq => by obtain ⟨f, hf, rfl⟩ := List.mem_map.1 hq; exact hk f hf)
  have hl' : (s.fs.map fent).length ≤ 1000000 := by simpa using hl
  clear cf h hk
  go_enter Try.func23, Try.ntmps23
  go_wp2_with (first
    | (go_at_call 30; refine (keys_any _ _).mono ?_; rintro e w' ⟨rfl, rfl⟩)
    | (go_at_call 29; refine (sorted_any HM.out HK.out hl').mono ?_; rintro e w' ⟨v, ns, rfl, hperm, hris, hown, hnil, hb4⟩))
  go_ret
  have hnd := HM.out.nodup
  rw [dmap_keys] at hperm hnd
  refine ⟨v, ns, rfl, hperm, hris, hperm.nodup_iff.2 hnd, ownsRow_weaken hown (by omega), ?_⟩
  exact ((Below.refl _ _).alloc (Nat.le_refl _) _).trans (hb4.mono (by omega))

/-! ### Crash -/
def crashN (keep : List Int) (i : Nat) (f : DFile) : Nat :=
  if 0 < keep.getD i 0 then f.safe + (min (keep.getD i 0) ((f.data.size - f.safe : Nat) : Int)).toNat else f.safe
def crash1 (keep : List Int) (i : Nat) (f : DFile) : DFile := ⟨f.name, f.data.extract 0 (crashN keep i f), crashN keep i f⟩
def nameIx (ns : List ByteArray) (s : ByteArray) : Nat := ns.findIdx (fun t => decide (t = s))
def crashK (keep : List Int) (ns : List ByteArray) (fs : List DFile) (k : Nat) : List DFile := fs.map fun f => if nameIx ns f.name < k then crash1 keep (nameIx ns f.name) f else f

theorem nameIx_at {ns : List ByteArray} (hn : ns.Nodup) {k : Nat} (hk : k < ns.length) : nameIx ns ns[k] = k := by
  unfold nameIx
  rw [List.findIdx_eq hk]
  refine ⟨by simp, fun j hj => ?_⟩
  simp only [decide_eq_false_iff_not]
  exact fun e => by have := nodup_idx hn (i := j) (j := k) (x := ns[k]) (by rw [List.getElem?_eq_getElem (by omega), e]) (List.getElem?_eq_getElem hk); omega

theorem crashK_zero (keep : List Int) (ns : List ByteArray) (fs : List DFile) : crashK keep ns fs 0 = fs := by
  simp [crashK]

theorem crash1_name (keep : List Int) (i : Nat) (f : DFile) : (crash1 keep i f).name = f.name := rfl

theorem crashK_names (keep : List Int) (ns : List ByteArray) (fs : List DFile) (k : Nat) : (crashK keep ns fs k).map (·.name) = fs.map (·.name) := by
  unfold crashK
  rw [List.map_map]
  refine List.map_congr_left fun f _ => ?_
  simp only [Function.comp_def]
  split <;> rfl

theorem dget_of {fs : List DFile} (hn : (fs.map (·.name)).Nodup) {f : DFile} (h : f ∈ fs) : dget fs f.name = some f := by
  unfold dget
  induction fs with
  | nil => cases h
  | cons g fs ih =>
    simp only [List.map_cons, List.nodup_cons] at hn
    rw [List.find?_cons]
    rcases List.mem_cons.1 h with rfl | h
    · simp
    · have hne : g.name ≠ f.name := fun e => hn.1 (e ▸ List.mem_map.2 ⟨f, h, rfl⟩)
      rw [show decide (g.name = f.name) = false from decide_eq_false hne]
      exact ih hn.2 h

theorem name_inj {fs : List DFile} (hn : (fs.map (·.name)).Nodup) {f g : DFile} (h : f ∈ fs) (hg : g ∈ fs) (e : f.name = g.name) : f = g := by
  have h1 := dget_of hn h
  have h2 := dget_of hn hg
  rw [e, h2] at h1
  exact (Option.some.inj h1).symm

theorem crashK_step (keep : List Int) {ns : List ByteArray} {fs : List DFile} (hn : (fs.map (·.name)).Nodup) (hp : ns.Perm (fs.map (·.name))) {k : Nat} (hk : k < ns.length) :
    ∃ f ∈ fs, f.name = ns[k] ∧ dget (crashK keep ns fs k) ns[k] = some f ∧ dput (crashK keep ns fs k) (crash1 keep k f) = crashK keep ns fs (k + 1) := by
  have hnn : ns.Nodup := hp.nodup_iff.2 hn
  obtain ⟨f, hf, e⟩ := List.mem_map.1 (hp.mem_iff.1 (List.getElem_mem hk))
  have hix : nameIx ns f.name = k := by rw [show f.name = ns[k] from e]; exact nameIx_at hnn hk
  have hmem : f ∈ crashK keep ns fs k := by
    unfold crashK
    exact List.mem_map.2 ⟨f, hf, by rw [hix, if_neg (Nat.lt_irrefl k)]⟩
  have hg : dget (crashK keep ns fs k) ns[k] = some f := by
    rw [← show f.name = ns[k] from e]
    exact dget_of (by rw [crashK_names]; exact hn) hmem
  refine ⟨f, hf, e, hg, ?_⟩
  unfold dput
  rw [crash1_name, show f.name = ns[k] from e, hg, if_pos (show (some f).isSome = true from rfl)]
  unfold crashK
  rw [List.map_map]
  refine List.map_congr_left fun g hgm => ?_
  simp only [Function.comp_def]
  by_cases hgk : g.name = ns[k]
  · have : g = f := name_inj hn hgm hf (hgk.trans e.symm)
    subst this
    rw [hix, if_neg (Nat.lt_irrefl k), if_pos hgk, if_pos (Nat.lt_succ_self k)]
  · have hne : nameIx ns g.name ≠ k := fun ek => hgk (by
      have hm : g.name ∈ ns := hp.mem_iff.2 (List.mem_map.2 ⟨g, hgm, rfl⟩)
      obtain ⟨j, hj, ej⟩ := List.getElem_of_mem hm
      rw [← ej, nameIx_at hnn hj] at ek
      subst ek
      exact ej.symm)
    by_cases hlt : nameIx ns g.name < k
    · rw [if_pos hlt, crash1_name, if_neg hgk, if_pos (show nameIx ns g.name < k + 1 by omega)]
    · rw [if_neg hlt, if_neg hgk, if_neg (show ¬ nameIx ns g.name < k + 1 by omega)]

def crashS (s : DSt) (keep : List Int) (ns : List ByteArray) : DSt := { s with off := false, armed := false, fs := crashK keep ns s.fs ns.length }

theorem crash_nil (A : Option Addr) (n c : Nat) (w : World) : Calls Try.prog 12 #[.pointer none, .slice A n c] w fun e w' => e = .returned (.tuple #[]) ∧ w' = w := by
  go_enter Try.func12, Try.ntmps12
  go_wp2
  (try simp only [Exit.inBlock, Exit.then])
  refine bodyPost_ret (results_none rfl _ _ _) rfl ?_
  exact ⟨rfl, rfl⟩

theorem at_i64 {w : World} {A : Option Addr} {n : Nat} {xs : List Int} (h : Kd.C (Kd.int .i64) w A n xs) {i : Nat} (hi : i < xs.length) : ∃ ad, A = some ad ∧ w.cell? (ad.add i) = some (.int .i64 xs[i]) := by
  have hn := h.1
  obtain ⟨ad, e, hc⟩ := Kd.at_int h (i : Int) (by omega) (by omega)
  refine ⟨ad, e, ?_⟩
  rw [Int.toNat_natCast] at hc
  rw [hc]
  simp [rd, List.getD_eq_getElem?_getD, List.getElem?_eq_getElem hi]

theorem keep_block {w : World} {A : Option Addr} {keep : List Int} (h : Kd.C (Kd.int .i64) w A keep.length keep) {ad : Addr} (e : A = some ad) (h0 : 0 < keep.length) : ad.block < w.heap.size := by
  obtain ⟨ad', e', hc⟩ := at_i64 h h0
  rw [e] at e'
  cases e'
  have := World.block_lt_of_cell? _ _ hc
  have hb : (ad.add 0).block = ad.block := by unfold Addr.add; split <;> rfl
  rwa [hb] at this

theorem addr_block (a : Addr) (i : Nat) : (a.add i).block = a.block := by unfold Addr.add; split <;> rfl

set_option maxRecDepth 100000 in
set_option maxHeartbeats 2000000 in
theorem crash_any {w : World} {p r : Nat} {s : DSt} {A : Option Addr} {c : Nat} (keep : List Int) (h : DRep w p r s) (hk : ∀ f ∈ s.fs, f.name.size ≤ maxLen ∧ f.safe ≤ f.data.size ∧ f.data.size ≤ 4194304) (hl : s.fs.length ≤ 1000000) (hc : keep.length ≤ c) (hr : Kd.C (Kd.int .i64) w A keep.length keep)
    (hA : ∀ ad, A = some ad → 0 < keep.length → ad.block ≠ p ∧ ad.block ≠ r) :
    Calls Try.prog 12 #[.pointer (some ⟨p, 0, none⟩), .slice A keep.length c] w fun e w' => ∃ ns : List ByteArray, e = .returned (.tuple #[]) ∧ ns.Perm (s.fs.map (·.name)) ∧ Rising ns ∧ ns.Nodup ∧ DRep w' p r (crashS s keep ns) ∧ DFr p r w w' := by
  obtain ⟨c0, c1, c2, c3, c4, cf⟩ := box5 h.1
  have f2 := cf 2
  have f4 := cf 4
  obtain ⟨s1, hs1⟩ : ∃ s1 : DSt, s1 = { s with off := false, armed := false } := ⟨_, rfl⟩
  obtain ⟨wz, hwz⟩ : ∃ wz, wz = (w.setCell ⟨p, 2, none⟩ (.bool false)).setCell ⟨p, 4, none⟩ (.bool false) := ⟨_, rfl⟩
  have hdz : DRep wz p r s1 := by rw [hwz, hs1]; exact DRep.set (s := { s with off := false }) (h.set 2 _ rfl rfl) 4 _ rfl rfl
  have hfz : DFr p r w wz := by rw [hwz]; exact ((Fr.refl _ w).setCell (.inr (.inl rfl)) _).setCell (.inr (.inl rfl)) _
  have hfs1 : s1.fs = s.fs := by rw [hs1]
  have hnd : (s.fs.map (·.name)).Nodup := by have := h.2.nodup; rwa [dmap_keys] at this
  have HND := Lib.hid hnd
  have HS1 := Lib.hid hs1
  have HFS1 := Lib.hid hfs1
  have HDZ := Lib.hid hdz
  have HFZ := Lib.hid hfz
  have HWZ := Lib.hid hwz
  have HK := Lib.hid hk
  have HR := Lib.hid hr
  have HNM := Lib.hid (names_any hdz (fun f hf => (hk f (hfs1 ▸ hf)).1) (by rw [hfs1]; exact hl))
  clear cf h hk hr hs1 hfs1 hdz hfz hnd
  go_enter Try.func12, Try.ntmps12
  go_wp2_with (go_at_call 23; rw [← HWZ.out]; refine HNM.out.mono ?_; rintro e w1 ⟨v, ns, rfl, hperm, hris, hnns, hown, hb1⟩; have hnl : ns.length ≤ 1000000 := (by have := hperm.length_eq; rw [List.length_map, HFS1.out] at this; omega); obtain ⟨An, cn, rfl, hcn, hrn, hon⟩ := own_read hown hnl; have HRN := Lib.hid hrn; have HOWN := Lib.hid hown; clear hrn hown)
  have hperm' : ns.Perm (s.fs.map (·.name)) := by rw [← HFS1.out]; exact hperm
  have HP := Lib.hid hperm'
  have hpz := HDZ.out.lt
  have hrz := HDZ.out.2.lt
  have hz1 := hb1.size
  have HW1 := Lib.hid (HDZ.out.below hb1)
  clear hperm hperm'
  go_loopw [19] (fun i wr => ∃ k : Nat, k ≤ ns.length ∧ i = .int .i64 k ∧ DRep wr p r { s1 with fs := crashK keep ns s.fs k } ∧ DFr p r w1 wr) (fun i _ => ns.length - (intOf i).toNat)
  case atStart => exact ⟨0, Nat.zero_le _, rfl, by rw [crashK_zero, ← HFS1.out]; exact HW1.out, Fr.refl _ _⟩
  case round =>
    obtain ⟨k, hk, rfl, hdr, hfr⟩ := hrel
    have HDR := Lib.hid hdr
    have HFR := Lib.hid hfr
    have hwr := hfr.size
    by_cases hlt : k < ns.length
    · obtain ⟨f, hfm, hfn, hget, hput⟩ := crashK_step keep HND.out HP.out hlt
      obtain ⟨_, hsafe, hsize⟩ := HK.out f hfm
      obtain ⟨e0, e1, e2, e3, e4, ef⟩ := box5 hdr.1
      obtain ⟨adn, rfl, hcn0⟩ := at_str HRN.out hlt
      have hbn := hon adn rfl
      have hbn2 := HOWN.out.lt _ hbn
      have hname := (hfr.cell (World.block_lt_of_cell? _ _ hcn0) (by rw [addr_block]; rintro (h | h) <;> omega)).trans hcn0
      have h1 : (mget ((crashK keep ns s.fs k).map fent) ns[k]).getD (.agg #[.string ⟨#[]⟩, .int .i64 0]) = .agg #[.string f.data, .int .i64 f.safe] := by rw [mget_dmap, hget]; rfl
      have H1 := Lib.hid h1
      have HPUT := Lib.hid hput
      have HFN := Lib.hid hfn
      clear ef hcn0 h1 hput hget hdr hfr hfn
      go_upto_region 7 with (at_lookup; refine wpList_lookup_L _ rfl _ _ 55 false rfl 9 59 Try.underlying55 Try.underlying9 _ (zero_file _) r _ rfl HDR.out.2 ns[k] rfl ?_; simp only [Bool.false_eq_true, if_false]; rw [H1.out])
      obtain ⟨wx, hwx⟩ : ∃ wx, wx = wr.alloc (.cells #[.string f.data, .int .i64 f.safe] 59) := ⟨_, rfl⟩
      have hbw : Below wr.heap.size wr wx := by rw [hwx]; exact (Below.refl _ _).alloc (Nat.le_refl _) _
      obtain ⟨b0, b1, _⟩ := box2 (w := wx) (by rw [hwx]; exact heap_alloc_new _ _)
      have m1 := (hbw.cell (World.block_lt_of_cell? _ _ e1)).trans e1
      have HBW := Lib.hid hbw
      have HDX := Lib.hid (HDR.out.below hbw)
      have hkeep : ∀ h : k < keep.length, ∃ adk, A = some adk ∧ wx.cell? (adk.add k) = some (.int .i64 keep[k]) := fun h => by
        obtain ⟨adk, rfl, hck⟩ := at_i64 HR.out h
        obtain ⟨a1, a2⟩ := hA adk rfl (by omega)
        have t1 := (HFZ.out.cell (World.block_lt_of_cell? _ _ hck) (by rw [addr_block]; rintro (h | h); exact a1 h; exact a2 h)).trans hck
        have t2 := (hb1.cell (World.block_lt_of_cell? _ _ t1)).trans t1
        have t3 := (HFR.out.cell (World.block_lt_of_cell? _ _ t2) (by rw [addr_block]; rintro (h | h); exact a1 h; exact a2 h)).trans t2
        exact ⟨adk, rfl, (hbw.cell (World.block_lt_of_cell? _ _ t3)).trans t3⟩
      rw [← hwx]
      clear hwx hbw
      obtain ⟨m, hm⟩ : ∃ m, m = crashN keep k f := ⟨_, rfl⟩
      have HM := Lib.hid hm
      have hmle : m ≤ f.data.size := by
        rw [hm]
        unfold crashN
        split <;> omega
      by_cases hkl : k < keep.length
      · obtain ⟨adk, rfl, hck⟩ := hkeep hkl
        have hgd : keep.getD k 0 = keep[k] := by simp [List.getD_eq_getElem?_getD, List.getElem?_eq_getElem hkl]
        by_cases hpos : 0 < keep[k]
        · have hmv : (m : Int) = f.safe + min keep[k] ((f.data.size : Int) - f.safe) := by
            rw [hm, crashN, hgd, if_pos hpos]
            omega
          clear hm hgd hkeep
          have hq1 : (0 : Int) ≤ (k : Int) := by omega
          have hq2 : (k : Int) < (keep.length : Int) := by omega
          have hmv' : (f.safe : Int) + min keep[k] ((f.data.size : Int) - (f.safe : Int)) = (m : Int) := hmv.symm
          clear hmv
          go_wp2_with fail
          go_quiet (fail)
          obtain ⟨wy, hwy⟩ : ∃ wy, wy = wx.drewN nq := ⟨_, rfl⟩
          have b0' : wy.cell? ⟨wr.heap.size, 0, none⟩ = some (.string f.data) := by rw [hwy]; exact b0
          have b1' : wy.cell? ⟨wr.heap.size, 1, none⟩ = some (.int .i64 f.safe) := by rw [hwy]; exact b1
          have m1' : wy.cell? ⟨p, 1, none⟩ = some (.map (some r)) := by rw [hwy]; exact m1
          have HDX := Lib.hid (show DRep wy p r { s1 with fs := crashK keep ns s.fs k } by rw [hwy]; exact HDX.out)
          have HBY := Lib.hid (show Below wr.heap.size wr wy by rw [hwy]; exact ((Fr.of_below (S := fun _ => False) HBW.out).drewN nq).to_below (Nat.le_refl _) fun _ _ h => h)
          rw [← hwy]
          clear hwy
          go_wp2_with fail
          have HDY := Lib.hid (show DRep wy.drew p r { s1 with fs := crashK keep ns s.fs k } from HDX.out)
          go_still_tail 11, (by kernel_rfl)
          change wpList _ _ _ _ _ wy.drew
          go_wp2_with (at_mapUpdate; refine wpList_mapUpdate_L _ rfl _ _ _ 55 rfl 9 59 Try.underlying55 Try.underlying9 r _ rfl HDY.out.2 ns[k] (.agg #[.string (f.data.extract 0 m), .int .i64 (m : Nat)]) rfl rfl ?_; intro w4 hm4 hg4 hs4)
          have hpp := HDY.out.put (crash1 keep k f) ns[k] (.agg #[.string (f.data.extract 0 m), .int .i64 (m : Nat)]) HFN.out (by unfold fval crash1; rw [← HM.out]) hm4 hg4
          rw [HPUT.out] at hpp
          have hff : DFr p r w1 w4 := (HFR.out.trans (Fr.of_below (S := fun _ => False) HBY.out.drew) fun _ _ h => h.elim).grown hg4 fun b hb => .inr (.inr (Option.some.inj hb).symm)
          exact ⟨⟨k + 1, by omega, by go_num, hpp, hff⟩, by simp [intOf]; omega⟩
        · have hmv : m = f.safe := by rw [hm, crashN, hgd, if_neg hpos]
          clear hm hgd hkeep
          subst hmv
          go_wp2_with fail
          have HDY := Lib.hid (show DRep wx.drew p r { s1 with fs := crashK keep ns s.fs k } from HDX.out)
          go_still_tail 11, (by kernel_rfl)
          change wpList _ _ _ _ _ wx.drew
          go_wp2_with (at_mapUpdate; refine wpList_mapUpdate_L _ rfl _ _ _ 55 rfl 9 59 Try.underlying55 Try.underlying9 r _ rfl HDY.out.2 ns[k] (.agg #[.string (f.data.extract 0 f.safe), .int .i64 (f.safe : Nat)]) rfl rfl ?_; intro w4 hm4 hg4 hs4)
          have hpp := HDY.out.put (crash1 keep k f) ns[k] (.agg #[.string (f.data.extract 0 f.safe), .int .i64 (f.safe : Nat)]) HFN.out (by unfold fval crash1; rw [← HM.out]) hm4 hg4
          rw [HPUT.out] at hpp
          have hff : DFr p r w1 w4 := (HFR.out.trans (Fr.of_below (S := fun _ => False) HBW.out.drew) fun _ _ h => h.elim).grown hg4 fun b hb => .inr (.inr (Option.some.inj hb).symm)
          exact ⟨⟨k + 1, by omega, by go_num, hpp, hff⟩, by simp [intOf]; omega⟩
      · have hmv : m = f.safe := by rw [hm, crashN, show keep.getD k 0 = 0 by simp [List.getD_eq_getElem?_getD, List.getElem?_eq_none (Nat.le_of_not_lt hkl)], if_neg (by decide)]
        clear hm hkeep
        subst hmv
        go_wp2_with fail
        have HDY := Lib.hid (show DRep wx.drew p r { s1 with fs := crashK keep ns s.fs k } from HDX.out)
        go_still_tail 11, (by kernel_rfl)
        change wpList _ _ _ _ _ wx.drew
        go_wp2_with (at_mapUpdate; refine wpList_mapUpdate_L _ rfl _ _ _ 55 rfl 9 59 Try.underlying55 Try.underlying9 r _ rfl HDY.out.2 ns[k] (.agg #[.string (f.data.extract 0 f.safe), .int .i64 (f.safe : Nat)]) rfl rfl ?_; intro w4 hm4 hg4 hs4)
        have hpp := HDY.out.put (crash1 keep k f) ns[k] (.agg #[.string (f.data.extract 0 f.safe), .int .i64 (f.safe : Nat)]) HFN.out (by unfold fval crash1; rw [← HM.out]) hm4 hg4
        rw [HPUT.out] at hpp
        have hff : DFr p r w1 w4 := (HFR.out.trans (Fr.of_below (S := fun _ => False) HBW.out.drew) fun _ _ h => h.elim).grown hg4 fun b hb => .inr (.inr (Option.some.inj hb).symm)
        exact ⟨⟨k + 1, by omega, by go_num, hpp, hff⟩, by simp [intOf]; omega⟩
    · obtain rfl : k = ns.length := by omega
      go_wp2_with fail
      go_end0
      refine ⟨ns, rfl, HP.out, hris, hnns, ?_, (HFZ.out.trans (Fr.of_below (S := fun _ => False) hb1) fun _ _ h => h.elim).trans hfr fun _ _ h => h⟩
      have := HDR.out
      rw [HS1.out] at this
      exact this

end Go.Proofs.Ytdogmcpmlglkfaa
