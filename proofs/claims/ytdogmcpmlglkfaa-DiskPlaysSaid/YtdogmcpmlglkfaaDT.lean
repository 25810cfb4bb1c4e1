/- DiskTwice: the walk of the law. -/
import Derived.Test.YtdogmcpmlglkfaaGr9
namespace Go.Proofs.Ytdogmcpmlglkfaa
open Go.RowKit Go.Proofs.YtdogmcpmlglkfaaW.PrintWords Go.Proofs.Ytdogmcpmlglkfaa.PRef

/-! ### a crash behind a crash -/
theorem crash1_same (keep : List Int) (i : Nat) (f : DFile) (h : f.safe = f.data.size) : crash1 keep i f = f := by
  have hc : crashN keep i f = f.data.size := by
    unfold crashN
    split <;> omega
  obtain ⟨nm, d, sf⟩ := f
  simp only at h hc
  subst h
  unfold crash1
  rw [hc]
  have : d.extract 0 d.size = d := by
    apply WideShapes.bytes_inj
    simp
  rw [this]

theorem crashK_same (keep : List Int) (ns : List ByteArray) (fs : List DFile) (k : Nat) (h : ∀ f ∈ fs, f.safe = f.data.size) : crashK keep ns fs k = fs := by
  unfold crashK
  conv => rhs; rw [← List.map_id fs]
  refine List.map_congr_left fun f hf => ?_
  rw [crash1_same keep _ f (h f hf), ite_self]
  rfl

theorem crashS_safe {s : DSt} (keep : List Int) {ns : List ByteArray} (hp : ns.Perm (s.fs.map (·.name))) (hk : ∀ f ∈ s.fs, f.safe ≤ f.data.size) : ∀ f ∈ (crashS s keep ns).fs, f.safe = f.data.size := by
  intro g hg
  obtain ⟨f, hf, rfl⟩ := List.mem_map.1 (show g ∈ s.fs.map _ from hg)
  have hm : f.name ∈ ns := hp.mem_iff.2 (List.mem_map.2 ⟨f, hf, rfl⟩)
  have hlt : nameIx ns f.name < ns.length := by
    unfold nameIx
    exact List.findIdx_lt_length_of_exists ⟨f.name, hm, by simp⟩
  rw [if_pos hlt]
  exact (crash1_bound keep _ f (hk f hf)).1.symm

theorem crash_again {s : DSt} (keep again : List Int) (ns ms : List ByteArray) (h : ∀ f ∈ (crashS s keep ns).fs, f.safe = f.data.size) : crashS (crashS s keep ns) again ms = crashS s keep ns := by
  have e : crashK again ms (crashS s keep ns).fs ms.length = (crashS s keep ns).fs := crashK_same _ _ _ _ h
  unfold crashS at e ⊢
  rw [e]

theorem read_name {s : DSt} {ns : List ByteArray} (ho : s.off = false) (hp : ns.Perm (s.fs.map (·.name))) {nm : ByteArray} (h : nm ∈ ns) : ∃ f, readS s nm = (f, 0) := by
  unfold readS
  rw [if_neg (by rw [ho]; decide)]
  cases hg : dget s.fs nm with
  | some f => exact ⟨f.data, rfl⟩
  | none => exact absurd (hp.mem_iff.1 h) (dget_none hg)

def reads (s : DSt) (ns : List ByteArray) : List ByteArray := ns.map fun nm => (readS s nm).1

theorem reads_take {s : DSt} {ns : List ByteArray} {k : Nat} (h : k < ns.length) : reads s (ns.take (k + 1)) = reads s (ns.take k) ++ [(readS s ns[k]).1] := by
  rw [List.take_succ_eq_append_getElem h, reads, List.map_append]
  rfl

theorem reads_length (s : DSt) (ns : List ByteArray) : (reads s ns).length = ns.length := by simp [reads]

theorem one_str (w : World) (v : ByteArray) (t : TypeId) : Kd.C Kd.string (w.alloc (.cells #[.string v] t)) (some ⟨w.heap.size, 0, none⟩) 1 [v] :=
  strs_read (c := [.string v]) (heap_alloc_new _ _) rfl (by simp)

theorem append_one {s : DSt} {ns : List ByteArray} {k : Nat} (h : k < ns.length) {w : World} {base : Nat} {e : TypeId} {v : Value} (hown : w.ownsRow base e 1 v (reads s (ns.take k) ++ [(readS s ns[k]).1]).length ((reads s (ns.take k) ++ [(readS s ns[k]).1]).map Value.string)) :
    w.ownsRow base e 1 v (k + 1) ((reads s (ns.take (k + 1))).map Value.string) := by
  rw [← reads_take h] at hown
  have e : (reads s (ns.take (k + 1))).length = k + 1 := by rw [reads_length, List.length_take]; omega
  rwa [e] at hown

theorem strC_move {w w' : World} {A : Option Addr} {n : Nat} {xs : List ByteArray} (h : Kd.C Kd.string w A n xs) (hb : ∀ ad, A = some ad → 0 < xs.length → w'.heap[ad.block]? = w.heap[ad.block]?) : Kd.C Kd.string w' A n xs := by
  obtain ⟨hl, hn, hr⟩ := h
  refine ⟨hl, hn, fun h0 => ?_⟩
  obtain ⟨ad, e, hc⟩ := hr h0
  refine ⟨ad, e, fun j q hj => ?_⟩
  obtain ⟨c, h1, h2, h3⟩ := hc j q hj
  refine ⟨c, h1, h2, fun i u hi => (World.cell?_of_block ?_).trans (h3 i u hi)⟩
  have hlt := (List.getElem?_eq_some_iff.1 hj).1
  rw [addr_block]
  exact hb ad e (by omega)

theorem strC_lt {w : World} {A : Option Addr} {n : Nat} {xs : List ByteArray} (h : Kd.C Kd.string w A n xs) {ad : Addr} (e : A = some ad) (h0 : 0 < xs.length) : ad.block < w.heap.size := by
  obtain ⟨ad', e', hc⟩ := at_str h h0
  rw [e] at e'
  cases e'
  have := World.block_lt_of_cell? _ _ hc
  rwa [addr_block] at this

theorem own_reads {w : World} {base : Nat} {e : TypeId} {v : Value} {s : DSt} {ns : List ByteArray} {k : Nat} (hk : k ≤ ns.length) (h : w.ownsRow base e 1 v k ((reads s (ns.take k)).map Value.string)) : w.ownsRow base e 1 v (reads s (ns.take k)).length ((reads s (ns.take k)).map Value.string) := by
  rw [reads_length, List.length_take, Nat.min_eq_left hk]
  exact h

theorem info_str : (Try.prog.info? 9).map (fun i => (i.zero, i.size, i.bytes)) = some (some (.string ⟨#[]⟩), 1, 16) := by kernel_rfl

theorem own_apart {w : World} {p r : Nat} {s : DSt} {b : Nat} (h : w.heap.size ≤ b) (hd : DRep w p r s) : b ≠ p ∧ b ≠ r := by
  have h1 := hd.lt
  have h2 := hd.2.lt
  exact ⟨by omega, by omega⟩

theorem own_none (w : World) (base : Nat) (e : TypeId) (size : Nat) : w.ownsRow base e size (.slice none 0 0) 0 [] := ⟨by simp, .inl ⟨rfl, rfl⟩⟩

set_option maxHeartbeats 2000000 in
set_option maxRecDepth 100000 in
theorem twice_walk (A1 : Option Addr) (c1 : Nat) (l : List Act9) (A2 : Option Addr) (c2 : Nat) (keep : List Int) (A3 : Option Addr) (c3 : Nat) (again : List Int) (w : World)
    (hl1 : l.length ≤ c1) (hr1 : Kd.C k44 w A1 l.length l) (hsz : ∀ x ∈ l, x.f3 ≤ 9223372036854775807)
    (hl2 : keep.length ≤ c2) (hr2 : Kd.C (Kd.int .i64) w A2 keep.length keep) (hl3 : again.length ≤ c3) (hr3 : Kd.C (Kd.int .i64) w A3 again.length again) :
    Calls Try.prog 6 #[.slice A1 l.length c1, .slice A2 keep.length c2, .slice A3 again.length c3] w fun e w' => e = .returned (.bool true) ∧ Below w.heap.size w w' := by
  obtain ⟨r, hsm, hgr⟩ := great9_calls hr1 hl1
  have HG := Lib.hid hgr
  have HR1 := Lib.hid hr1
  have HR2 := Lib.hid hr2
  have HR3 := Lib.hid hr3
  have HSZL := Lib.hid hsz
  clear hgr hr1 hsz hr2 hr3
  go_enter Try.func6, Try.ntmps6
  go_wp2_with fail
  refine HG.out.mono ?_
  rintro e w1 ⟨rfl, hd⟩
  have hb1 := hd.below
  cases r with
  | true =>
    go_wp2_with (go_at_call 8; refine (awake_any _).mono ?_; rintro e w2 ⟨rfl, hb2⟩)
    go_ret
    exact ⟨rfl, hb1.trans (hb2.mono hb1.size)⟩
  | false =>
    obtain ⟨hs1, hs2⟩ := hsm rfl
    clear hs2 HG hd
    go_wp2_with (first
      | (go_at_call 8; refine (awake_any _).mono ?_; rintro e w2 ⟨rfl, hb2⟩; have HB2 := Lib.hid (hb1.trans (hb2.mono hb1.size)); clear hb2)
      | (go_at_call 9; refine (new_ok 5000 _ (by omega) (by omega)).mono ?_; rintro e w3 ⟨p, r, rfl, hd3, hp0, hr0, hb3⟩; have hp := Nat.le_trans HB2.out.size hp0; have hr := Nat.le_trans HB2.out.size hr0; have HD3 := Lib.hid hd3; have HB3 := Lib.hid (HB2.out.trans (hb3.mono HB2.out.size)); clear hd3 hb3 hp0 hr0))
    have HOK0 := Lib.hid (show DOk 0 ⟨5000, false, 0, false, []⟩ from ⟨Int.le_refl 0, of_decide_eq_true rfl, of_decide_eq_true rfl, of_decide_eq_true rfl, fun f hf => (by cases hf), Nat.le_refl _, List.nodup_nil⟩)
    clear hb1
    go_loopw [8] (fun i wr => ∃ (j : Nat) (s : DSt), j ≤ l.length ∧ i = .int .i64 j ∧ DRep wr p r s ∧ DOk j s ∧ Below w.heap.size w wr) (fun i _ => l.length - (intOf i).toNat)
    case atStart => exact ⟨0, _, Nat.zero_le _, rfl, HD3.out, HOK0.out, HB3.out⟩
    case round =>
      obtain ⟨j, s, hj, rfl, hdr, hok, hbr⟩ := hrel
      have HDR := Lib.hid hdr
      have HOK := Lib.hid hok
      have HBR := Lib.hid hbr
      clear HD3 HOK0 hdr hok
      by_cases hlt : j < l.length
      · obtain ⟨ad, A4, c4, rfl, hadb, k1, k2, k3, k4, k0, hc4, hr4⟩ := act9_at HR1.out hlt
        have j0 := (hbr.cell (p := ad.add (j * 5)) hadb).trans k0
        have j1 := (hbr.cell (p := ⟨(ad.add (j * 5)).block, (ad.add (j * 5)).off + 1, none⟩) hadb).trans k1
        have j2 := (hbr.cell (p := ⟨(ad.add (j * 5)).block, (ad.add (j * 5)).off + 2, none⟩) hadb).trans k2
        have j3 := (hbr.cell (p := ⟨(ad.add (j * 5)).block, (ad.add (j * 5)).off + 3, none⟩) hadb).trans k3
        have j4 := (hbr.cell (p := ⟨(ad.add (j * 5)).block, (ad.add (j * 5)).off + 4, none⟩) hadb).trans k4
        have HR4 := Lib.hid (Kd.C_below hr4 hbr)
        have HNE := Lib.hid (fun ad e h0 => keep_ne hr4 (ad := ad) e h0 hp hr)
        have h3m := HSZL.out l[j] (List.getElem_mem hlt)
        clear k0 k1 k2 k3 k4 hr4 hbr
        go_wp2_with (go_at_call 18; refine (do_any l[j] A4 c4 HDR.out HOK.out (by omega) hc4 HR4.out HNE.out).mono ?_; rintro e w4 ⟨rfl, hd4, hf4⟩)
        exact ⟨⟨j + 1, _, by omega, by go_num, hd4, HOK.out.done _ h3m, hf4.to_below HBR.out hp hr⟩, by simp [intOf]; omega⟩
      · obtain rfl : j = l.length := by omega
        have HKN := Lib.hid (fun ad e h0 => keep_ne HR2.out (ad := ad) e h0 hp hr)
        have HAN := Lib.hid (fun ad e h0 => keep_ne HR3.out (ad := ad) e h0 hp hr)
        have HLEN := Lib.hid (Nat.le_trans HOK.out.len (show l.length ≤ 1000000 by omega))
        have HKR := Lib.hid (Kd.C_below HR2.out hbr)
        clear hbr
        go_wp2_with (first
          | (go_at_call 12; refine (crash_any keep HDR.out HOK.out.crash HLEN.out hl2 HKR.out HKN.out).mono ?_; rintro e w5 ⟨ns, rfl, hperm, hris, hnd, hd5, hf5⟩; obtain ⟨t, ht⟩ : ∃ t, t = crashS s keep ns := ⟨_, rfl⟩; have HSF := Lib.hid (show ∀ f ∈ t.fs, f.safe = f.data.size by rw [ht]; exact crashS_safe keep hperm fun f hf => (HOK.out.file f hf).2); have HTO := Lib.hid (show DOk l.length t by rw [ht]; exact HOK.out.crashed keep ns); have HTA := Lib.hid (show ∀ ms, crashS t again ms = t from fun ms => by have h := HSF.out; rw [ht] at h ⊢; exact crash_again keep again ns ms h); have hto : t.off = false := (by rw [ht]; rfl); rw [← ht] at hd5; have HD5 := Lib.hid hd5; have HB5 := Lib.hid (hf5.to_below HBR.out hp hr); clear ht hd5 hf5 hperm hris hnd ns)
          | (go_at_call 23; refine (names_any HD5.out (fun f hf => (HTO.out.crash f hf).1) (Nat.le_trans HTO.out.len (by omega))).mono ?_; rintro e w6 ⟨v6, ns, rfl, hperm, _, hnd, hown, hb6⟩; have hnl : ns.length ≤ 60 := (by have h1 := hperm.length_eq; rw [List.length_map] at h1; have := HTO.out.len; omega); obtain ⟨An, cn, rfl, hcn, hrn, hon⟩ := own_read hown (by omega); have HP6 := Lib.hid hperm; have HRN := Lib.hid hrn; have HNB := Lib.hid (fun (ad : Addr) (e : An = some ad) => own_apart (hown.lt _ (hon ad e)).1 HD5.out); have HD6 := Lib.hid (HD5.out.below hb6); have HB6 := Lib.hid (HB5.out.trans (hb6.mono HB5.out.size)); clear hrn hown hb6 hperm hnd hon))
        obtain ⟨wo, rfl⟩ : ∃ wo : World, wo = wr := ⟨_, rfl⟩
        go_loopw [10, 11, 12, 13] (fun v i _ _ wl => ∃ k : Nat, k ≤ ns.length ∧ i = .int .i64 k ∧ wl.ownsRow w6.heap.size 9 1 v k ((reads t (ns.take k)).map Value.string) ∧ Below w6.heap.size w6 wl) (fun _ i _ _ _ => ns.length - (intOf i).toNat)
        case atStart => exact ⟨0, Nat.zero_le _, rfl, own_none _ _ _ _, Below.refl _ _⟩
        case round =>
          obtain ⟨k, hk, rfl, hown, hbl⟩ := hrel
          have HOWN := Lib.hid hown
          have HBL := Lib.hid hbl
          clear hown
          by_cases hkl : k < ns.length
          · obtain ⟨adn, rfl, hcn0⟩ := at_str HRN.out hkl
            have hname := (hbl.cell (World.block_lt_of_cell? _ _ hcn0)).trans hcn0
            obtain ⟨f, hf⟩ := read_name hto HP6.out (List.getElem_mem hkl)
            have HF := Lib.hid hf
            have HOW' := Lib.hid (own_reads hk HOWN.out)
            have hrl : (reads t (ns.take k)).length ≤ 60 := by rw [reads_length, List.length_take]; omega
            obtain ⟨i0, hii0, hz0, hz1, hz2⟩ := info_parts info_str
            clear hcn0 hf hbl
            go_wp2_with (first
              | (go_at_call 13; refine (read_any ns[k] (HD6.out.below HBL.out)).mono ?_; rintro e w7 ⟨rfl, hb7⟩; rw [HF.out]; have HB7 := Lib.hid (HBL.out.trans (hb7.mono HBL.out.size)); have HO7 := Lib.hid (own_below HOW'.out hb7); have hz7 := HB7.out.size; clear hb7)
              | (at_builtin; refine wpList_append_strs _ rfl (.tmp 57) (.tmp 59) 51 rfl w6.heap.size 9 i0 Try.underlying51 hii0 hz0 hz1 hz2 _ (reads t (ns.take k)) [f] rfl (HO7.out.alloc _) (some ⟨w7.heap.size, 0, none⟩) 1 rfl (one_str _ _ _) (by simp; omega) (by rw [asz]; omega) ?_; intro v' w8 hown8 hg8 hat8))
            refine ⟨⟨k + 1, by omega, by go_num, append_one hkl (by rw [HF.out]; exact hown8), ?_⟩, by simp [intOf]; omega⟩
            exact (((Fr.of_below (S := fun _ => False) HB7.out).alloc _).grown hg8 fun b hb => .inl (HO7.out.lt b hb).1).to_below (Nat.le_refl _) fun _ _ h => h
          · obtain rfl : k = ns.length := by omega
            rw [List.take_length] at HOWN
            have HB6L := Lib.hid (HB6.out.trans (hbl.mono HB6.out.size))
            have HDL := Lib.hid (HD6.out.below hbl)
            have HRNL := Lib.hid (Kd.C_below HRN.out hbl)
            have HAR := Lib.hid (Kd.C_below HR3.out HB6L.out)
            obtain ⟨Aw, cw, rfl, hcw, hrw, hwon⟩ := own_read (xs := reads t ns) (by rw [reads_length]; exact HOWN.out) (by rw [reads_length]; omega)
            have HRW := Lib.hid hrw
            have HWB := Lib.hid (fun (ad : Addr) (e : Aw = some ad) => own_apart (HOWN.out.lt _ (hwon ad e)).1 HD6.out)
            clear hbl hrw hwon
            rw [reads_length] at *
            go_wp2_with (first
              | (go_at_call 12; refine (crash_any again HDL.out HTO.out.crash (Nat.le_trans HTO.out.len (by omega)) hl3 HAR.out HAN.out).mono ?_; rintro e w7 ⟨ms, rfl, _, _, _, hd7, hf7⟩; rw [HTA.out ms] at hd7; have HD7 := Lib.hid hd7; have HB7 := Lib.hid (hf7.to_below HB6L.out hp hr); have HRN7 := Lib.hid (strC_move HRNL.out fun ad e h0 => hf7.block ad.block (strC_lt HRNL.out e h0) (by have := HNB.out ad e; rintro (h | h); exact this.1 h; exact this.2 h)); have HRW7 := Lib.hid (strC_move HRW.out fun ad e h0 => hf7.block ad.block (strC_lt HRW.out e h0) (by have := HWB.out ad e; rintro (h | h); exact this.1 h; exact this.2 h)); clear hd7 hf7))
            obtain ⟨wo2, rfl⟩ : ∃ wo2 : World, wo2 = wr := ⟨_, rfl⟩
            go_loopw [14, 15, 16] (fun i _ _ wl => ∃ k : Nat, k ≤ ns.length ∧ i = .int .i64 k ∧ Below w7.heap.size w7 wl) (fun i _ _ _ => ns.length - (intOf i).toNat)
            case atStart => exact ⟨0, Nat.zero_le _, rfl, Below.refl _ _⟩
            case round =>
              obtain ⟨k, hk, rfl, hbl⟩ := hrel
              have HBL := Lib.hid hbl
              by_cases hkl : k < ns.length
              · obtain ⟨adn, rfl, hcn0⟩ := at_str HRN7.out hkl
                have hname := (hbl.cell (World.block_lt_of_cell? _ _ hcn0)).trans hcn0
                obtain ⟨f, hf⟩ := read_name hto HP6.out (List.getElem_mem hkl)
                obtain ⟨adw, rfl, hcw0⟩ := at_str HRW7.out (i := k) (by rw [reads_length]; exact hkl)
                rw [show (reads t ns)[k]'(by rw [reads_length]; exact hkl) = f by simp only [reads, List.getElem_map, hf]] at hcw0
                have hwas := (hbl.cell (World.block_lt_of_cell? _ _ hcw0)).trans hcw0
                have HF := Lib.hid hf
                clear hcn0 hcw0 hf hbl
                go_wp2_with (go_at_call 13; refine (read_any ns[k] (HD7.out.below HBL.out)).mono ?_; rintro e w8 ⟨rfl, hb8⟩; rw [HF.out]; have HB8 := Lib.hid (HBL.out.trans (hb8.mono HBL.out.size)); have hwas8 := (hb8.cell (World.block_lt_of_cell? _ _ hwas)).trans hwas; clear hb8)
                exact ⟨⟨k + 1, by omega, by go_num, HB8.out⟩, by simp [intOf]; omega⟩
              · obtain rfl : k = ns.length := by omega
                go_wp2_with (first
                  | (go_at_call 23; refine (names_any (HD7.out.below HBL.out) (fun f hf => (HTO.out.crash f hf).1) (Nat.le_trans HTO.out.len (by omega))).mono ?_; rintro e w9 ⟨v9, ms, rfl, hperm, _, _, hown9, hb9⟩; have hml : ms.length = ns.length := hperm.length_eq.trans HP6.out.length_eq.symm; obtain ⟨A9, c9, rfl, _⟩ := own_slice hown9; rw [hml]; have HD9 := Lib.hid ((HD7.out.below HBL.out).below hb9); have HB9 := Lib.hid (HBL.out.trans (hb9.mono HBL.out.size)); clear hb9 hown9 hperm hml)
                  | (go_at_call 15; refine (on_any HD9.out).mono ?_; rintro e w10 ⟨rfl, hb10⟩; rw [hto]; have HB10 := Lib.hid (HB9.out.trans (hb10.mono HB9.out.size)); clear hb10))
                go_ret
                exact ⟨rfl, HB7.out.trans (HB10.out.mono HB7.out.size)⟩

end Go.Proofs.Ytdogmcpmlglkfaa
