/- palaverlaw09.same: a disk as its model. -/
import Derived.Test.YtdogmcpmlglkfaaM4
namespace Go.Proofs.Ytdogmcpmlglkfaa
open Go.RowKit Go.Proofs.YtdogmcpmlglkfaaW.PrintWords Go.Proofs.Ytdogmcpmlglkfaa.PRef

structure Eqv (s m : DSt) : Prop where
  room : m.room = s.room
  off : m.off = s.off
  armed : m.armed = s.armed
  left : m.left = s.left
  fs : m.fs.Perm s.fs
  ris : Rising (m.fs.map (·.name))

theorem used_perm {a b : List DFile} (h : a.Perm b) : used a = used b := (h.map _).sum_nat

theorem Eqv.read {s m : DSt} (h : Eqv s m) (hn : (s.fs.map (·.name)).Nodup) {i : Nat} (hi : i < m.fs.length) : readS s m.fs[i].name = if m.off then (⟨#[]⟩, 6) else (m.fs[i].data, 0) := by
  have hm : m.fs[i] ∈ s.fs := h.fs.mem_iff.1 (List.getElem_mem hi)
  unfold readS
  rw [h.off, dget_of hn hm]

set_option maxHeartbeats 4000000 in
set_option maxRecDepth 100000 in
theorem same_any {w : World} {p r B q n : Nat} {V : Value} {s m : DSt} (hd : DRep w p r s) (hm : MRep w B q V m) (heq : Eqv s m) (hok : DOk n s) (hokm : DOk n m) (hn : n ≤ 1000) :
    Calls Try.prog 22 #[.pointer (some ⟨p, 0, none⟩), .pointer (some ⟨q, 0, none⟩)] w fun e w' => e = .returned (.bool true) ∧ Below w.heap.size w w' := by
  have hml : m.fs.length ≤ 1000 := Nat.le_trans hokm.len hn
  have hsl : s.fs.length ≤ 1000 := Nat.le_trans hok.len hn
  have hus : used s.fs = used m.fs := (used_perm heq.fs).symm
  have hu1 : used s.fs ≤ 4611686018427387904 := by have h1 := hok.use; have h2 := hok.room; omega
  have hu2 : used m.fs ≤ 4611686018427387904 := by omega
  have HD := Lib.hid hd
  have HM := Lib.hid hm
  have HE := Lib.hid heq
  have HND := Lib.hid hok.nodup
  have HNM := Lib.hid (names_any hd (fun f hf => (hok.crash f hf).1) (by omega))
  have HUS := Lib.hid hus
  obtain ⟨A, cV, hV, hcV⟩ := own_slice hm.2.2
  subst hV
  clear hd hm heq hok hokm hus
  go_enter Try.func22, Try.ntmps22
  go_upto_region 2 with (go_at_call 23; refine HNM.out.mono ?_; rintro e w1 ⟨v, ns, rfl, hperm, hris, hnns, hown, hb1⟩; obtain rfl : ns = m.fs.map (·.name) := rising_eq hris HE.out.ris (hperm.trans (HE.out.fs.map _).symm); obtain ⟨An, cn, rfl, hcn, hrn, hon⟩ := own_read hown (by rw [List.length_map]; omega); have HRN := Lib.hid hrn; have HB1 := Lib.hid hb1; clear hrn hown hperm hris hnns hon hb1)
  simp only [List.length_map] at hcn
  have HD1 := Lib.hid (HD.out.below HB1.out)
  have HM1 := Lib.hid (HM.out.below HB1.out)
  obtain ⟨_, c1, c2, _, _, _⟩ := box5 HM1.out.2.1
  have hbx := (Below.refl w1.heap.size w1).drew
  have hdx : w1.drew.cell? ⟨q, 1, none⟩ = some (.slice A m.fs.length cV) := c1
  have hdy : w1.drew.cell? ⟨q, 2, none⟩ = some (.bool m.off) := c2
  have hoff := HE.out.off
  cases ho : m.off with
  | true =>
    rw [ho] at hoff c2 hdy
    have HOF := Lib.hid hoff.symm
    clear hoff
    go_region_held3 (fun x' => x'.cell? ⟨q, 1, none⟩ = some (.slice A m.fs.length cV) ∧ x'.cell? ⟨q, 2, none⟩ = some (.bool true) ∧ Below w1.heap.size w1 x') (first | (refine ⟨?_, ?_, ?_⟩ <;> assumption) | go_keep)
      (first
        | (go_at_call 15; refine (on_any (HD1.out.below ?_)).mono ?_; assumption; rintro e w5 ⟨rfl, hb5⟩; rw [HOF.out]; obtain ⟨hs5, ht5, hx5⟩ := keepB2 (g := q) (j := 1) (g2 := q) (j2 := 2) (by assumption) (by assumption) (by assumption) hb5)
        | (go_at_call 16; refine (used_any (HD1.out.below ?_) hu1).mono ?_; assumption; rintro e w6 ⟨rfl, hb6⟩; rw [HUS.out]; obtain ⟨hs6, ht6, hx6⟩ := keepB2 (g := q) (j := 1) (g2 := q) (j2 := 2) (by assumption) (by assumption) (by assumption) hb6)
        | (go_at_call 27; refine (mused_any (HM1.out.below ?_) (by omega) hu2).mono ?_; assumption; rintro e w7 ⟨rfl, hb7⟩; obtain ⟨hs7, ht7, hx7⟩ := keepB2 (g := q) (j := 1) (g2 := q) (j2 := 2) (by assumption) (by assumption) (by assumption) hb7))
    have HM7 := Lib.hid (HM1.out.below hx7)
    have HD7 := Lib.hid (HD1.out.below hx7)
    have HRN7 := Lib.hid (Kd.C_below HRN.out hx7)
    have HB7 := Lib.hid (HB1.out.trans (hx7.mono HB1.out.size))
    clear hb5 hs5 ht5 hx5 hb6 hs6 ht6 hx6 hb7 hs7 ht7 hx7 hdx hdy hbx c1 c2
    go_wp2_with fail
    go_loopw [6, 7, 8] (fun i _ _ wr => ∃ k : Nat, k ≤ m.fs.length ∧ i = .int .i64 k ∧ Below w7.heap.size w7 wr) (fun i _ _ _ => m.fs.length - (intOf i).toNat)
    case atStart => exact ⟨0, Nat.zero_le _, rfl, Below.refl _ _⟩
    case round =>
      obtain ⟨k, hk, rfl, hbl⟩ := hrel
      have HBL := Lib.hid hbl
      clear hbl
      by_cases hlt : k < m.fs.length
      · obtain ⟨adn, rfl, hcn0⟩ := at_str HRN7.out (i := k) (by rw [List.length_map]; exact hlt)
        rw [List.getElem_map] at hcn0
        obtain ⟨g, cap, e, hcap, hBg, hgl, hgq, f0, f1, f2⟩ := HM7.out.file hlt
        cases e
        have hread := HE.out.read HND.out hlt
        rw [ho] at hread
        obtain ⟨nm, hnm⟩ : ∃ nm, nm = m.fs[k].name := ⟨_, rfl⟩
        obtain ⟨dat, hdat⟩ : ∃ dat, dat = m.fs[k].data := ⟨_, rfl⟩
        rw [← hnm] at hcn0 f0 hread
        rw [← hdat] at f1 hread
        have HREAD := Lib.hid hread
        obtain ⟨_, d1, d2, _, _, _⟩ := box5 (HM7.out.below HBL.out).2.1
        rw [ho] at d2
        have x0 := (HBL.out.cell (World.block_lt_of_cell? _ _ hcn0)).trans hcn0
        have y0 := (HBL.out.cell (p := ⟨g, k * 3, none⟩) hgl).trans f0
        have y1 := (HBL.out.cell (p := ⟨g, k * 3 + 1, none⟩) hgl).trans f1
        have hk4 : (0 : Int) ≤ (k : Int) := by omega
        have hk5 : (k : Int) < (m.fs.length : Int) := by omega
        clear hread hnm hdat hcn0 f0 f1 f2
        go_wp2_with fail
        go_quiet (fail)
        obtain ⟨wy, hwy⟩ : ∃ wy, wy = wr.drewN nq := ⟨_, rfl⟩
        have x0' : wy.cell? (adn.add k) = some (.string nm) := by rw [hwy]; exact x0
        have y1' : wy.cell? ⟨g, k * 3 + 1, none⟩ = some (.string dat) := by rw [hwy]; exact y1
        have d1' : wy.cell? ⟨q, 1, none⟩ = some (.slice (some ⟨g, 0, none⟩) m.fs.length cV) := by rw [hwy]; exact d1
        have d2' : wy.cell? ⟨q, 2, none⟩ = some (.bool true) := by rw [hwy]; exact d2
        have HBY := Lib.hid (show Below w7.heap.size w7 wy by rw [hwy]; exact below_drewN HBL.out nq)
        rw [← hwy]
        clear hwy x0 y0 y1 d1 d2
        go_wp2_with (go_at_call 13; refine (read_any nm (HD7.out.below HBY.out)).mono ?_; rintro e w8 ⟨rfl, hb8⟩; rw [HREAD.out]; have HB8 := Lib.hid (HBY.out.trans (hb8.mono HBY.out.size)); have y8 := (hb8.cell (World.block_lt_of_cell? _ _ y1')).trans y1'; have z1 := (hb8.cell (World.block_lt_of_cell? _ _ d1')).trans d1'; have z2 := (hb8.cell (World.block_lt_of_cell? _ _ d2')).trans d2'; clear hb8)
        exact ⟨⟨k + 1, by omega, by go_num, HB8.out⟩, by simp [intOf]; omega⟩
      · obtain rfl : k = m.fs.length := by omega
        go_wp2_with fail
        go_ret
        exact ⟨rfl, HB7.out.trans (HBL.out.mono HB7.out.size)⟩
  | false =>
    rw [ho] at hoff c2 hdy
    have HOF := Lib.hid hoff.symm
    clear hoff
    go_region_held3 (fun x' => x'.cell? ⟨q, 1, none⟩ = some (.slice A m.fs.length cV) ∧ x'.cell? ⟨q, 2, none⟩ = some (.bool false) ∧ Below w1.heap.size w1 x') (first | (refine ⟨?_, ?_, ?_⟩ <;> assumption) | go_keep)
      (first
        | (go_at_call 15; refine (on_any (HD1.out.below ?_)).mono ?_; assumption; rintro e w5 ⟨rfl, hb5⟩; rw [HOF.out]; obtain ⟨hs5, ht5, hx5⟩ := keepB2 (g := q) (j := 1) (g2 := q) (j2 := 2) (by assumption) (by assumption) (by assumption) hb5)
        | (go_at_call 16; refine (used_any (HD1.out.below ?_) hu1).mono ?_; assumption; rintro e w6 ⟨rfl, hb6⟩; rw [HUS.out]; obtain ⟨hs6, ht6, hx6⟩ := keepB2 (g := q) (j := 1) (g2 := q) (j2 := 2) (by assumption) (by assumption) (by assumption) hb6)
        | (go_at_call 27; refine (mused_any (HM1.out.below ?_) (by omega) hu2).mono ?_; assumption; rintro e w7 ⟨rfl, hb7⟩; obtain ⟨hs7, ht7, hx7⟩ := keepB2 (g := q) (j := 1) (g2 := q) (j2 := 2) (by assumption) (by assumption) (by assumption) hb7))
    have HM7 := Lib.hid (HM1.out.below hx7)
    have HD7 := Lib.hid (HD1.out.below hx7)
    have HRN7 := Lib.hid (Kd.C_below HRN.out hx7)
    have HB7 := Lib.hid (HB1.out.trans (hx7.mono HB1.out.size))
    clear hb5 hs5 ht5 hx5 hb6 hs6 ht6 hx6 hb7 hs7 ht7 hx7 hdx hdy hbx c1 c2
    go_wp2_with fail
    go_loopw [6, 7, 8] (fun i _ _ wr => ∃ k : Nat, k ≤ m.fs.length ∧ i = .int .i64 k ∧ Below w7.heap.size w7 wr) (fun i _ _ _ => m.fs.length - (intOf i).toNat)
    case atStart => exact ⟨0, Nat.zero_le _, rfl, Below.refl _ _⟩
    case round =>
      obtain ⟨k, hk, rfl, hbl⟩ := hrel
      have HBL := Lib.hid hbl
      clear hbl
      by_cases hlt : k < m.fs.length
      · obtain ⟨adn, rfl, hcn0⟩ := at_str HRN7.out (i := k) (by rw [List.length_map]; exact hlt)
        rw [List.getElem_map] at hcn0
        obtain ⟨g, cap, e, hcap, hBg, hgl, hgq, f0, f1, f2⟩ := HM7.out.file hlt
        cases e
        have hread := HE.out.read HND.out hlt
        rw [ho] at hread
        obtain ⟨nm, hnm⟩ : ∃ nm, nm = m.fs[k].name := ⟨_, rfl⟩
        obtain ⟨dat, hdat⟩ : ∃ dat, dat = m.fs[k].data := ⟨_, rfl⟩
        rw [← hnm] at hcn0 f0 hread
        rw [← hdat] at f1 hread
        have HREAD := Lib.hid hread
        obtain ⟨_, d1, d2, _, _, _⟩ := box5 (HM7.out.below HBL.out).2.1
        rw [ho] at d2
        have x0 := (HBL.out.cell (World.block_lt_of_cell? _ _ hcn0)).trans hcn0
        have y0 := (HBL.out.cell (p := ⟨g, k * 3, none⟩) hgl).trans f0
        have y1 := (HBL.out.cell (p := ⟨g, k * 3 + 1, none⟩) hgl).trans f1
        have hk4 : (0 : Int) ≤ (k : Int) := by omega
        have hk5 : (k : Int) < (m.fs.length : Int) := by omega
        clear hread hnm hdat hcn0 f0 f1 f2
        go_wp2_with fail
        go_quiet (fail)
        obtain ⟨wy, hwy⟩ : ∃ wy, wy = wr.drewN nq := ⟨_, rfl⟩
        have x0' : wy.cell? (adn.add k) = some (.string nm) := by rw [hwy]; exact x0
        have y1' : wy.cell? ⟨g, k * 3 + 1, none⟩ = some (.string dat) := by rw [hwy]; exact y1
        have d1' : wy.cell? ⟨q, 1, none⟩ = some (.slice (some ⟨g, 0, none⟩) m.fs.length cV) := by rw [hwy]; exact d1
        have d2' : wy.cell? ⟨q, 2, none⟩ = some (.bool false) := by rw [hwy]; exact d2
        have HBY := Lib.hid (show Below w7.heap.size w7 wy by rw [hwy]; exact below_drewN HBL.out nq)
        rw [← hwy]
        clear hwy x0 y0 y1 d1 d2
        go_wp2_with (go_at_call 13; refine (read_any nm (HD7.out.below HBY.out)).mono ?_; rintro e w8 ⟨rfl, hb8⟩; rw [HREAD.out]; have HB8 := Lib.hid (HBY.out.trans (hb8.mono HBY.out.size)); have y8 := (hb8.cell (World.block_lt_of_cell? _ _ y1')).trans y1'; have z1 := (hb8.cell (World.block_lt_of_cell? _ _ d1')).trans d1'; have z2 := (hb8.cell (World.block_lt_of_cell? _ _ d2')).trans d2'; clear hb8)
        exact ⟨⟨k + 1, by omega, by go_num, HB8.out⟩, by simp [intOf]; omega⟩
      · obtain rfl : k = m.fs.length := by omega
        go_wp2_with fail
        go_ret
        exact ⟨rfl, HB7.out.trans (HBL.out.mono HB7.out.size)⟩

end Go.Proofs.Ytdogmcpmlglkfaa
