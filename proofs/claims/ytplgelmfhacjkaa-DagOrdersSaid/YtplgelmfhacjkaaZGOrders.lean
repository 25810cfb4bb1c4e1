/- DagOrders: entries as they are given, the walk of the law, the row. -/
import Derived.Test.YtplgelmfhacjkaaZD
import Derived.Deep.RegionHeld3

namespace Go.Proofs.Ytplgelmfhacjkaa
open Go.ChangeShapes Go.WideShapes Go.ChangeAt Go.RowKit Go.Proofs.YtplgelmfhacjkaaW.PrintWords Go.Proofs.Ytplgelmfhacjkaa.PRef

abbrev EntS := S38
def small12 (l : List EntS) : Prop := l.length ≤ 60 ∧ ∀ x ∈ l, x.f1.length ≤ 60

theorem rdE_at {xs : List EntS} {i : Nat} (h : i < xs.length) : rd_T38 xs (i : Int) = xs[i] := by
  unfold rd_T38
  rw [show ((i : Int)).toNat = i by omega, List.getD_eq_getElem?_getD, List.getElem?_eq_getElem h]; rfl

theorem great12_ev (l : List EntS) : ∃ k r, palaverlaw12_great.f k l = some r ∧ (r = false → small12 l) := by
  by_cases hl : l.length ≤ 60
  · have key : ∀ d i, i ≤ l.length → l.length - i = d → (∀ j (hj : j < l.length), j < i → l[j].f1.length ≤ 60) → ∃ r, Ev (fun k => palaverlaw12_great.l0 k l (i : Int)) r ∧ (r = false → small12 l) := by
      intro d
      induction d with
      | zero =>
        intro i hi hd hb
        refine ⟨false, Ev.step (f := fun _ => some false) (fun k => ?_) (Ev.now _), fun _ => ⟨hl, fun x hx => ?_⟩⟩
        · simp only [palaverlaw12_great.l0]; rw [if_neg (by omega)]
        · obtain ⟨j, hj, rfl⟩ := List.getElem_of_mem hx
          exact hb j hj (by omega)
      | succ d ih =>
        intro i hi hd hb
        have hlt : i < l.length := by omega
        by_cases he : l[i].f1.length ≤ 60
        · obtain ⟨r, h1, h2⟩ := ih (i + 1) (by omega) (by omega) (fun j hj hji => by
            by_cases e : j = i
            · subst e; exact he
            · exact hb j hj (by omega))
          refine ⟨r, Ev.step (fun k => ?_) h1, h2⟩
          simp only [palaverlaw12_great.l0]; rw [if_pos (by omega), if_pos (by omega), rdE_at hlt, if_neg (by omega), wrapS (by omega)]
        · refine ⟨true, Ev.step (f := fun _ => some true) (fun k => ?_) (Ev.now _), fun h => by cases h⟩
          simp only [palaverlaw12_great.l0]; rw [if_pos (by omega), if_pos (by omega), rdE_at hlt, if_pos (by omega)]
    obtain ⟨r, h1, h2⟩ := key l.length 0 (Nat.zero_le _) rfl (fun j _ h => by omega)
    obtain ⟨k, hk⟩ := h1.rounds
    refine ⟨k, r, ?_, h2⟩
    unfold palaverlaw12_great.f
    rw [if_neg (by omega)]
    exact hk
  · refine ⟨0, true, ?_, fun h => by cases h⟩
    unfold palaverlaw12_great.f
    rw [if_pos (by omega)]

theorem great12_calls {w : World} {A : Option Addr} {c : Nat} {l : List EntS} (hr : Kd.C k38 w A l.length l) (hc : l.length ≤ c) :
    ∃ r : Bool, (r = false → small12 l) ∧ Calls Try.prog 17 #[.slice A l.length c] w fun e w' => e = .returned (.bool r) ∧ Drawn0 w w' := by
  obtain ⟨k, r, h1, h2⟩ := great12_ev l
  exact ⟨r, h2, palaverlaw12_great.calls k A c l r w hr hc h1⟩


/-- What an entry reads as. -/
theorem ent_opens {H : Type} (enc : TypeId × Value → H) (w : World) (spare : Nat → Bool) (held : Bool) :
    Opens enc Try.prog w spare held 38 k38 (fun x => x.f0.size ≤ maxLen ∧ x.f1.length ≤ maxLen ∧ ∀ s ∈ x.f1, s.size ≤ maxLen) :=
  Opens.iso (fun x : EntS => (x.f0, x.f1)) (fun y => ⟨y.1, y.2⟩) (fun _ => rfl)
    (Opens.struct2 Try.underlying38 ⟨rfl, by kernel_rfl, rfl, by kernel_rfl, by kernel_rfl⟩
      (Opens.str Try.underlying9) (Opens.slice Try.underlying25 (by kernel_rfl) (Opens.str Try.underlying9)))

theorem ent_at {w : World} {A : Option Addr} {n : Nat} {l : List EntS} (h : Kd.C k38 w A n l) {i : Nat} (hi : i < l.length) : ∃ ad Ap cp, A = some ad ∧
    w.cell? (ad.add (i * 2)) = some (.string l[i].f0) ∧ w.cell? ⟨(ad.add (i * 2)).block, (ad.add (i * 2)).off + 1, none⟩ = some (.slice Ap l[i].f1.length cp) ∧ l[i].f1.length ≤ cp ∧ Kd.C Kd.string w Ap l[i].f1.length l[i].f1 := by
  have hn := h.1
  have hat := at_T38 h (i : Int) (by omega) (by omega)
  rw [rdE_at hi] at hat
  simp only [Int.toNat_natCast] at hat
  exact hat

end Go.Proofs.Ytplgelmfhacjkaa

namespace Go.Proofs.Ytplgelmfhacjkaa
open Go.RowKit Go.Proofs.YtplgelmfhacjkaaW.PrintWords Go.Proofs.Ytplgelmfhacjkaa.PRef

def accG (l : List EntS) : List Ent := l.foldl (fun G x => addG G x.f0 x.f1) []

theorem accG_step {l : List EntS} {j : Nat} (h : j < l.length) : accG (l.take (j + 1)) = addG (accG (l.take j)) l[j].f0 l[j].f1 := by
  unfold accG
  rw [List.take_succ_eq_append_getElem h, List.foldl_append]
  rfl

theorem take_mono {l : List ByteArray} {j k : Nat} (h : j ≤ k) {x : ByteArray} (hx : x ∈ l.take j) : x ∈ l.take k := by
  have : (l.take k).take j = l.take j := by rw [List.take_take, Nat.min_eq_left h]
  rw [← this] at hx
  exact List.mem_of_mem_take hx

theorem ord_past {G : List Ent} (hG : GOk G) {O : List ByteArray} (h : IsOrd G O) {k : Nat} {x y : ByteArray} (hk : O[k]? = some y) (ha : Anc G x y) : x ∈ O.take k := by
  induction ha with
  | par hp => exact ((ready_iff hG).1 (h.2 k _ hk).1).2.2 _ hp
  | step hp _ ih =>
    have hq := ih hk
    obtain ⟨j, hj⟩ := List.mem_iff_getElem?.1 hq
    have hlt : j < k := by
      have := (List.getElem?_eq_some_iff.1 hj).1
      rw [List.length_take] at this
      omega
    rw [List.getElem?_take_of_lt hlt] at hj
    have := ((ready_iff hG).1 (h.2 j _ hj).1).2.2 _ hp
    exact take_mono (by omega) this

theorem ord_not_anc {G : List Ent} (hG : GOk G) {O : List ByteArray} (h : IsOrd G O) {i k : Nat} {x y : ByteArray} (hi : O[i]? = some x) (hk : O[k]? = some y) (hki : k ≤ i) : ¬ Anc G x y := fun ha =>
  ((ready_iff hG).1 (h.2 i _ hi).1).2.1 (take_mono hki (ord_past hG h hk ha))

theorem ahead_not {w : World} {p a b : Nat} {G : List Ent} (h : DagRep w p a b G) {x y : ByteArray} (hn : ¬ Anc G x y) : Calls Try.prog 19 #[.pointer (some ⟨p, 0, none⟩), .string x, .string y] w fun e w' => e = .returned (.bool false) ∧ Below w.heap.size w w' := by
  refine (aheadD_any h x y).mono ?_
  rintro e w' ⟨r, rfl, hr, hb⟩
  cases r with
  | true => exact absurd (hr.1 rfl) hn
  | false => exact ⟨rfl, hb⟩

set_option maxHeartbeats 8000000 in
set_option maxRecDepth 100000 in
theorem dorders_walk (A : Option Addr) (c : Nat) (l : List EntS) (w : World) (hc : l.length ≤ c) (hr : Kd.C k38 w A l.length l) :
    Calls Try.prog 5 #[.slice A l.length c] w fun e w' => e = .returned (.bool true) ∧ Below w.heap.size w w' := by
  obtain ⟨rg, hsm, hgr⟩ := great12_calls hr hc
  have HG := Lib.hid hgr
  have HR := Lib.hid hr
  clear hgr hr
  go_enter Try.func5, Try.ntmps5
  cases rg with
  | true =>
    go_wp2_with (first
      | (go_at_call 17; refine HG.out.mono ?_; rintro e w1 ⟨rfl, hd⟩; have HB1 := Lib.hid hd.below; clear hd)
      | (go_at_call 16; refine (awake12 _).mono ?_; rintro e w2 ⟨rfl, hb2⟩))
    go_ret
    exact ⟨rfl, HB1.out.trans (hb2.mono HB1.out.size)⟩
  | false =>
    obtain ⟨hs1, hs2⟩ := hsm rfl
    have HSM := Lib.hid hs2
    clear hs2 hsm
    go_wp2_with (first
      | (go_at_call 17; refine HG.out.mono ?_; rintro e w0 ⟨rfl, hd⟩; have HB0 := Lib.hid hd.below; clear hd)
      | (go_at_call 16; refine (awake12 _).mono ?_; rintro e w1 ⟨rfl, hb1⟩; have HB1 := Lib.hid (HB0.out.trans (hb1.mono HB0.out.size)); clear hb1)
      | (go_at_call 10; refine (new_any _).mono ?_; rintro e w2 ⟨p, a, b, rfl, hp0, ha0, hb0, hd, hbl⟩; have hp := Nat.le_trans HB1.out.size hp0; have ha := Nat.le_trans HB1.out.size ha0; have hb := Nat.le_trans HB1.out.size hb0; have HD2 := Lib.hid hd; have HB2 := Lib.hid (HB1.out.trans (hbl.mono HB1.out.size)); clear hp0 ha0 hb0 hd hbl))
    go_loopw [4] (fun iv wr => ∃ j : Nat, iv = .int .i64 j ∧ j ≤ l.length ∧ DagRep wr p a b (accG (l.take j)) ∧ Below w.heap.size w wr) (fun iv _ => l.length - (intOf iv).toNat)
    case atStart => exact ⟨0, rfl, Nat.zero_le _, HD2.out, HB2.out⟩
    case round =>
      obtain ⟨j, rfl, hj, hd, hbl⟩ := hrel
      by_cases hlt : j < l.length
      · obtain ⟨ad, Ap, cp, rfl, k0, k1, hcp, hrp⟩ := ent_at (Kd.C_below HR.out hbl) hlt
        have hpl := HSM.out l[j] (List.getElem_mem hlt)
        have hstep := accG_step hlt
        obtain ⟨x, hx⟩ : ∃ x, x = l[j] := ⟨_, rfl⟩
        rw [← hx] at k0 k1 hcp hrp hpl hstep
        have HST := Lib.hid hstep
        have hdm := hd
        obtain ⟨_, m, k, hm⟩ := hdm
        have x0 : wr.drew.cell? (ad.add (j * 2)) = some (.string x.f0) := k0
        have x1 : wr.drew.cell? ⟨(ad.add (j * 2)).block, (ad.add (j * 2)).off + 1, none⟩ = some (.slice Ap x.f1.length cp) := k1
        have hn0 := cell_map k0 hm.ma
        have hn1 := cell_map k0 hm.mb
        have hn2 := cell_map k1 hm.ma
        have hn3 := cell_map k1 hm.mb
        have l0 := World.block_lt_of_cell? _ _ k0
        have l1 := World.block_lt_of_cell? _ _ k1
        have hdw : Below wr.heap.size wr wr.drew := (Below.refl wr.heap.size wr).drew
        have HAD := Lib.hid (addD_any (hd.below hdw) x.f0 (Kd.C_below hrp hdw) hcp (by omega))
        have HBL := Lib.hid hbl
        have hwj : IntKind.i64.wrap ((j : Int) + 1) = ((j + 1 : Nat) : Int) := wrapN (by omega)
        clear hm hd hbl hx hrp hstep hdw k0 k1
        go_upto_region 7 with fail
        go_region_held3 (fun W => W.cell? (ad.add (j * 2)) = some (.string x.f0) ∧ W.cell? ⟨(ad.add (j * 2)).block, (ad.add (j * 2)).off + 1, none⟩ = some (.slice Ap x.f1.length cp)) (refine ⟨?_, ?_⟩ <;> assumption)
          (first
            | (go_at_call 12; refine HAD.out.mono ?_; rintro e w5 ⟨rfl, hd5, hf5⟩; have y0 := (hf5.cell (p := ad.add (j * 2)) l0 (fun h => h.elim hn0 hn1)).trans x0; have y1 := (hf5.cell (p := ⟨(ad.add (j * 2)).block, (ad.add (j * 2)).off + 1, none⟩) l1 (fun h => h.elim hn2 hn3)).trans x1; have HD5 := Lib.hid hd5; have HF5 := Lib.hid (hf5.to_below (B := w.heap.size) HBL.out.size (fun k hk h => h.elim (fun e => by omega) (fun e => by omega))); clear hd5 hf5))
        go_wp2_with fail
        refine ⟨⟨j + 1, rfl, by omega, by rw [HST.out]; exact HD5.out, HBL.out.drew.trans HF5.out⟩, by simp [intOf]; omega⟩
      · obtain rfl : j = l.length := by omega
        have hG := hd.ok
        have HGO := Lib.hid hG
        have HOR := Lib.hid (orderD_any hd)
        have HBL := Lib.hid hbl
        have HD := Lib.hid hd
        clear hG hd hbl
        obtain ⟨GG, hGG⟩ : ∃ GG, GG = accG (l.take l.length) := ⟨_, rfl⟩
        rw [← hGG] at HGO HOR HD
        clear hGG
        go_upto_region 9 with (go_at_call 14; refine HOR.out.mono ?_; rintro e w5 ⟨v5, O, rfl, hio, ho, hb5⟩; have HIO := Lib.hid hio; have HO5 := Lib.hid ho; have HB5 := Lib.hid (HBL.out.trans (hb5.mono HBL.out.size)); have HD5 := Lib.hid (HD.out.below hb5); clear hio ho hb5 HOR)
        have hol := HIO.out.1
        have hg3 := HGO.out.len
        obtain ⟨A5, c5, rfl, hc5, hr5, _⟩ := own_read HO5.out (by omega)
        have HR5 := Lib.hid hr5
        clear hr5
        have HL := Lib.hid (lenD_any HD5.out)
        rw [← hol] at HL hg3
        clear hol
        go_wp2_with (go_at_call 13; refine HL.out.mono ?_; rintro e w6 ⟨rfl, hw6⟩; rw [hw6]; clear hw6)
        go_loopw [6] (fun iv wr => ∃ i : Nat, iv = .int .i64 i ∧ i ≤ O.length ∧ Below w5.heap.size w5 wr) (fun iv _ => O.length - (intOf iv).toNat)
        case atStart => exact ⟨0, rfl, Nat.zero_le _, Below.refl _ _⟩
        case round =>
          obtain ⟨i, rfl, hi, hbi⟩ := hrel
          have HBI := Lib.hid hbi
          clear hbi
          by_cases hlt : i < O.length
          · have hwi : IntKind.i64.wrap ((i : Int) + 1) = ((i + 1 : Nat) : Int) := wrapN (by omega)
            go_wp2_with fail
            go_loopw [7] (fun kv' wq => ∃ k : Nat, kv' = .int .i64 k ∧ k ≤ i + 1 ∧ Below w5.heap.size w5 wq) (fun kv' _ => i + 1 - (intOf kv').toNat)
            case atStart => exact ⟨0, rfl, Nat.zero_le _, HBI.out⟩
            case round =>
              obtain ⟨k, rfl, hk, hbk⟩ := hrel
              have hwk : IntKind.i64.wrap ((k : Int) + 1) = ((k + 1 : Nat) : Int) := wrapN (by omega)
              by_cases hkl : k ≤ i
              · have hkl' : (k : Int) ≤ (i : Int) := by omega
                obtain ⟨ad, rfl, q0⟩ := at_str (Kd.C_below HR5.out hbk) hlt
                have hkO : k < O.length := by omega
                have hkO' : (k : Int) < (O.length : Int) := by omega
                have hk0' : (0 : Int) ≤ (k : Int) := by omega
                have hiO' : (i : Int) < (O.length : Int) := by omega
                have hi0' : (0 : Int) ≤ (i : Int) := by omega
                obtain ⟨ad', e', q1⟩ := at_str (Kd.C_below HR5.out hbk) hkO
                cases e'
                have hna := ord_not_anc HGO.out HIO.out (List.getElem?_eq_getElem hlt) (List.getElem?_eq_getElem hkO) hkl
                obtain ⟨x, hx⟩ : ∃ x, x = O[i] := ⟨_, rfl⟩
                obtain ⟨y, hy⟩ : ∃ y, y = O[k] := ⟨_, rfl⟩
                rw [← hx] at q0 hna
                rw [← hy] at q1 hna
                have hbd : Below wr.heap.size wr wr.drew := (Below.refl wr.heap.size wr).drew
                have x0 : wr.drew.cell? (ad.add i) = some (.string x) := q0
                have x1 : wr.drew.cell? (ad.add k) = some (.string y) := q1
                have HAH := Lib.hid (ahead_not ((HD5.out.below hbk).below hbd) hna)
                have HBK := Lib.hid hbk
                have hzk := hbk.size
                clear hx hy hna hbk q0 q1 hbd
                go_upto_region 17 with fail
                go_region_held3 (fun W => W.cell? (ad.add i) = some (.string x) ∧ W.cell? (ad.add k) = some (.string y)) (refine ⟨?_, ?_⟩ <;> assumption)
                  (first
                    | (go_at_call 19; refine HAH.out.mono ?_; rintro e w7 ⟨rfl, hb7⟩; have y0 := (hb7.cell (p := ad.add i) (World.block_lt_of_cell? _ _ x0)).trans x0; have y1 := (hb7.cell (p := ad.add k) (World.block_lt_of_cell? _ _ x1)).trans x1; have HB7 := Lib.hid hb7; clear hb7))
                go_wp2_with fail
                exact ⟨⟨k + 1, rfl, by omega, HBK.out.drew.trans (HB7.out.mono hzk)⟩, by simp [intOf]; omega⟩
              · have hkl' : ¬ (k : Int) ≤ (i : Int) := by omega
                have HBK := Lib.hid hbk
                clear hbk
                go_wp2_with fail
                exact ⟨⟨i + 1, rfl, by omega, HBK.out⟩, by simp [intOf]; omega⟩
          · obtain rfl : i = O.length := by omega
            have hz5 := HB5.out.size
            go_wp2_with fail
            go_ret
            exact ⟨rfl, HB5.out.trans (HBI.out.mono hz5)⟩

end Go.Proofs.Ytplgelmfhacjkaa

namespace Go.Proofs.Ytplgelmfhacjkaa
open Go.ChangeShapes Go.WideShapes Go.ChangeAt Go.RowKit Go.Proofs.YtplgelmfhacjkaaW.PrintWords Go.Proofs.Ytplgelmfhacjkaa.PRef

set_option maxRecDepth 100000 in
theorem dagOrders_lifted (os : Os) (started : os.Started) (H : Type) (enc : TypeId × Value → H) :
    ReturnsInHanded {} Try.checked os 5 .any (Rows.dagOrdersSpec.pre6 enc Try.prog Try.f5 Rows.dagOrdersRow.domain false) (Rows.dagOrdersSpec.post enc Try.prog Try.f5 false true false false) := by
  refine returnsInHanded_of_change_sized (C := Try.checked) own0 started (by kernel_rfl) Try.func5
    (ChangeSpec.witness6 (enc := enc) (C := Try.checked) false ⟨#[], #[.slice none 0 0], []⟩ 8 (by kernel_rfl) (by kernel_rfl) (by kernel_rfl) (by kernel_rfl)) ?_
  intro W base args ds gs before hval0 hW hcnd hsz0 _
  have hval : ∀ (j : Nat) t v, Try.f5.params[j]? = some t → args[j]? = some v → Value.okWide Try.prog W .any base t v := hval0
  have hW' := hW
  obtain ⟨p, q, hA0, hV, rfl, hfz, hnd⟩ := hW
  have hA : DataW.TrodAll enc Try.prog W 0 (fun _ => true) true Try.f5.params.toList args.toList ds p := hA0
  rw [Try.params5] at hA hval
  obtain ⟨v0, vs0, d0, ds0, p0, q0, hargs, rfl, rfl, h0, r0⟩ := trodAll_cons hA
  obtain ⟨rfl, rfl, rfl⟩ := trodAll_nil r0
  obtain rfl : args = #[v0] := by cases args; simp_all
  obtain ⟨rfl, rfl⟩ := trodVars_none hV
  obtain ⟨A0, n0, c0, rfl⟩ := okWide_slice Try.underlying33 (hval 0 33 v0 rfl rfl)
  have k0 := h0
  have lt0 : ∀ x ∈ p0, x.block < W.heap.size := by obtain ⟨m, hm⟩ := k0; exact DataW.trod_lt m _ _ _ hm
  obtain ⟨m0, hm0⟩ := h0
  obtain ⟨x0, hy0, hz0⟩ := Opens.slice Try.underlying33 (by kernel_rfl) (ent_opens enc W _ _) m0 _ _ hm0
  obtain ⟨B0, e0, E0, l0, g0⟩ := hy0
  cases E0
  have hh0 := hz0.2
  clear hA0 hval0 hsz0
  refine (dorders_walk A0 c0 x0 W l0 g0).mono fun e W' ⟨he, bel⟩ => ?_
  subst he
  exact ⟨_, rfl, _, _, _, [], _, [], hW', trodAll_mk1 (shut_bool Try.underlying4 _), (trodAll_cons_mk (Below.trod laid (by kernel_rfl) (of_decide_eq_true (by kernel_rfl)) k0 bel lt0) trodAll_mk0), rfl, bel.frame _, fun h => by cases h⟩

theorem dagOrders_over : Rows.dagOrdersRow.holds Try.pinned (OpenSpec.ofChange Rows.dagOrdersSpec) :=
  OpenClaim.holds_of_wide 5 Try.f5 rfl rfl rfl rfl rfl rfl rfl ⟨rfl, rfl, rfl, rfl, rfl⟩ rfl rfl rfl rfl rfl (by kernel_rfl) Try.func5 (by kernel_rfl)
    (of_decide_eq_true (by kernel_rfl)) (by unfold Func.isWrapper; first | (rw [if_pos (by decide +kernel)]; kernel_rfl) | (rw [if_neg (by decide +kernel)]; exact ⟨rfl, rfl⟩))
    (fun os started H enc _ => dagOrders_lifted os started H enc)

theorem dagOrders_holds : Rows.DagOrdersSaid := dagOrders_over
#print axioms dagOrders_holds

end Go.Proofs.Ytplgelmfhacjkaa
