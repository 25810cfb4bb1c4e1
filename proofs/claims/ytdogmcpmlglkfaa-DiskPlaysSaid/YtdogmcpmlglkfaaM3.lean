/- The model of palaverlaw09: does. -/
import Derived.Test.YtdogmcpmlglkfaaM2
namespace Go.Proofs.Ytdogmcpmlglkfaa
open Go.RowKit Go.Proofs.YtdogmcpmlglkfaaW.PrintWords Go.Proofs.Ytdogmcpmlglkfaa.PRef

theorem own_set {w : World} {base : Nat} {e : TypeId} {size n g cap : Nat} {xs : List Value} (h : w.ownsRow base e size (.slice (some ⟨g, 0, none⟩) n cap) n xs) (j : Nat) (u : Value) :
    (w.setCell ⟨g, j, none⟩ u).ownsRow base e size (.slice (some ⟨g, 0, none⟩) n cap) n (xs.set j u) := by
  refine ⟨by rw [List.length_set]; exact h.1, ?_⟩
  rcases h.2 with ⟨h1, _⟩ | ⟨g', cap', cur, h1, hb, hg, hn, hm, hs, ht⟩
  · cases h1
  · cases h1
    refine .inr ⟨g, cap, cur.setIfInBounds j u, rfl, hb, setCell_row u hg, hn, hm, by simpa using hs, ?_⟩
    rw [Array.toList_setIfInBounds, List.take_set, ht]

theorem setCell_size (w : World) (a : Addr) (v : Value) : (w.setCell a v).heap.size = w.heap.size := by simp [World.setCell]

theorem MRep.set {w : World} {B q : Nat} {V : Value} {s s' : DSt} (h : MRep w B q V s) (j : Nat) (v : Value) (hs : (mcells s V).setIfInBounds j v = mcells s' V) (hf : s'.fs = s.fs) : MRep (w.setCell ⟨q, j, none⟩ v) B q V s' := by
  refine ⟨h.1, ?_, ?_⟩
  · rw [← hs]; exact setCell_row _ h.2.1
  · rw [hf]
    exact own_setCell h.2.2 (fun e => h.ne e.symm rfl) _

def MEx (w : World) (B q : Nat) (s : DSt) : Prop := ∃ V, MRep w B q V s

def putF (fs : List DFile) (i : Nat) (d : ByteArray) (n : Nat) : List DFile := fs.set i ⟨(fs.getD i zfile).name, d, n⟩

theorem putF_length (fs : List DFile) (i : Nat) (d : ByteArray) (n : Nat) : (putF fs i d n).length = fs.length := by simp [putF]

theorem fcells_data : ∀ {fs : List DFile} {i : Nat} (_ : i < fs.length) (d : ByteArray), (fcells fs).set (i * 3 + 1) (.string d) = fcells (putF fs i d (fs.getD i zfile).safe)
  | f :: fs, 0, _, d => rfl
  | f :: fs, i + 1, h, d => by
    have ih := fcells_data (fs := fs) (i := i) (by simpa using h) d
    unfold fcells putF at *
    rw [List.flatMap_cons, show (i + 1) * 3 + 1 = i * 3 + 1 + 1 + 1 + 1 by omega]
    simp only [fcell, List.cons_append, List.nil_append, List.set_cons_succ, List.flatMap_cons, List.getD_cons_succ]
    rw [ih]

theorem fcells_safe : ∀ {fs : List DFile} {i : Nat} (_ : i < fs.length) (n : Nat), (fcells fs).set (i * 3 + 2) (.int .i64 n) = fcells (putF fs i (fs.getD i zfile).data n)
  | f :: fs, 0, _, n => rfl
  | f :: fs, i + 1, h, n => by
    have ih := fcells_safe (fs := fs) (i := i) (by simpa using h) n
    unfold fcells putF at *
    rw [List.flatMap_cons, show (i + 1) * 3 + 2 = i * 3 + 2 + 1 + 1 + 1 by omega]
    simp only [fcell, List.cons_append, List.nil_append, List.set_cons_succ, List.flatMap_cons, List.getD_cons_succ]
    rw [ih]

theorem MRep.setFile {w : World} {B q g n cap : Nat} {s : DSt} (h : MRep w B q (.slice (some ⟨g, 0, none⟩) n cap) s) (j : Nat) (u : Value) (fs' : List DFile) (hl : fs'.length = s.fs.length) (hs : (fcells s.fs).set j u = fcells fs') :
    MRep (w.setCell ⟨g, j, none⟩ u) B q (.slice (some ⟨g, 0, none⟩) n cap) { s with fs := fs' } := by
  have hne : q ≠ g := fun e => h.ne (g := g) rfl e.symm
  refine ⟨h.1, (Below.heap_setCell _ _ _ _ hne).trans h.2.1, ?_⟩
  have hn : n = s.fs.length := by
    obtain ⟨_, _, e, _⟩ := own_slice h.2.2
    cases e
    rfl
  subst hn
  have := own_set h.2.2 j u
  rw [hs] at this
  show (w.setCell ⟨g, j, none⟩ u).ownsRow B 48 3 _ fs'.length (fcells fs')
  rw [hl]
  exact this

theorem MRep.file' {w : World} {B q : Nat} {V : Value} {s : DSt} (h : MRep w B q V s) {k : Nat} (hk : k < s.fs.length) : ∃ g cap, V = .slice (some ⟨g, 0, none⟩) s.fs.length cap ∧ s.fs.length ≤ cap ∧ B ≤ g ∧ g < w.heap.size ∧ g ≠ q ∧
    w.cell? ⟨g, k * 3, none⟩ = some (.string (s.fs.getD k zfile).name) ∧ w.cell? ⟨g, k * 3 + 1, none⟩ = some (.string (s.fs.getD k zfile).data) ∧ w.cell? ⟨g, k * 3 + 2, none⟩ = some (.int .i64 (s.fs.getD k zfile).safe) ∧ (∀ o, w.frozen? ⟨g, o, none⟩ = false) := by
  obtain ⟨g, cap, e, h1, h2, h3, h4, h5, h6, h7⟩ := h.file hk
  have e' : s.fs.getD k zfile = s.fs[k] := by simp [List.getD_eq_getElem?_getD, List.getElem?_eq_getElem hk]
  rw [e']
  refine ⟨g, cap, e, h1, h2, h3, h4, h5, h6, h7, fun o => ?_⟩
  obtain ⟨cur, hc⟩ := own_kind h.2.2 (g := g) (by rw [e]; rfl)
  simp [World.frozen?, hc]

def mdo (m : DSt) (x : Act9) : Int × DSt :=
  if (beginS m x.f1).1 = 0 then
    if x.f0 = 0 then
      if (beginS m x.f1).2.room - (used m.fs : Int) < (x.f2.size : Int) then (6, (beginS m x.f1).2)
      else if fix m.fs x.f1 < 0 then (0, { (beginS m x.f1).2 with fs := putF (insF m.fs x.f1) (insAt m.fs x.f1) (((insF m.fs x.f1).getD (insAt m.fs x.f1) zfile).data ++ x.f2) ((insF m.fs x.f1).getD (insAt m.fs x.f1) zfile).safe })
      else (0, { (beginS m x.f1).2 with fs := putF m.fs (fix m.fs x.f1).toNat ((m.fs.getD (fix m.fs x.f1).toNat zfile).data ++ x.f2) (m.fs.getD (fix m.fs x.f1).toNat zfile).safe })
    else if fix m.fs x.f1 < 0 then (10, (beginS m x.f1).2)
    else if x.f0 = 1 then (0, { (beginS m x.f1).2 with fs := putF m.fs (fix m.fs x.f1).toNat (m.fs.getD (fix m.fs x.f1).toNat zfile).data (m.fs.getD (fix m.fs x.f1).toNat zfile).data.size })
    else if x.f3 < 0 ∨ ((m.fs.getD (fix m.fs x.f1).toNat zfile).data.size : Int) < x.f3 then (1, (beginS m x.f1).2)
    else (0, { (beginS m x.f1).2 with fs := putF m.fs (fix m.fs x.f1).toNat ((m.fs.getD (fix m.fs x.f1).toNat zfile).data.extract 0 x.f3.toNat) x.f3.toNat })
  else ((beginS m x.f1).1, (beginS m x.f1).2)

def actv (x : Act9) (A : Option Addr) (c : Nat) : Array Value := #[.int .i64 x.f0, .string x.f1, .string x.f2, .int .i64 x.f3, .slice A x.f4.length c]

theorem fix_range (fs : List DFile) (name : ByteArray) : fix fs name = -1 ∨ ∃ i : Nat, fix fs name = i ∧ i < fs.length := by
  unfold fix
  cases h : fs.findIdx? (fun f => decide (f.name = name)) with
  | none => exact .inl rfl
  | some i =>
    rw [List.findIdx?_eq_some_iff_getElem] at h
    exact .inr ⟨i, rfl, h.1⟩

theorem insF_get (fs : List DFile) (name : ByteArray) : (insF fs name).getD (insAt fs name) zfile = ⟨name, ⟨#[]⟩, 0⟩ := by
  have h := insAt_le fs name
  unfold insF
  rw [List.getD_eq_getElem?_getD, List.getElem?_append_right (by rw [List.length_take]; omega), List.length_take, Nat.min_eq_left h, Nat.sub_self]
  rfl

theorem insF_size (fs : List DFile) (name : ByteArray) : (insF fs name).length = fs.length + 1 := by
  have h := insAt_le fs name
  unfold insF
  simp
  omega

theorem insF_lt (fs : List DFile) (name : ByteArray) : insAt fs name < (insF fs name).length := by
  have h := insAt_le fs name
  rw [insF_size]
  omega

theorem getD_mem {fs : List DFile} {i : Nat} (h : i < fs.length) : fs.getD i zfile ∈ fs := by
  rw [List.getD_eq_getElem?_getD, List.getElem?_eq_getElem h]
  exact List.getElem_mem h

theorem below_drewN {B : Nat} {w w' : World} (h : Below B w w') (n : Nat) : Below B w (w'.drewN n) := ⟨h.os, h.tape, h.output, h.size, h.block⟩

theorem putF_putF {fs : List DFile} {i : Nat} (h : i < fs.length) (d : ByteArray) (a n : Nat) : putF (putF fs i d a) i ((putF fs i d a).getD i zfile).data n = putF fs i d n := by
  unfold putF
  have e : (fs.set i ⟨(fs.getD i zfile).name, d, a⟩).getD i zfile = ⟨(fs.getD i zfile).name, d, a⟩ := by
    rw [List.getD_eq_getElem?_getD, List.getElem?_set_self h]
    rfl
  rw [e, List.set_set]

theorem toList_nil {s : ByteArray} (h : s.size < 1) : s.toList = [] := by
  rw [ByteArray.toList_eq]
  have e : s.data.toList.length = s.size := by rw [Array.length_toList]; rfl
  exact List.eq_nil_of_length_eq_zero (by omega)

theorem toList_nil_size {s : ByteArray} (h : s.toList = []) : s.size = 0 := by
  rw [ByteArray.toList_eq] at h
  have e : s.data.toList.length = s.size := by rw [Array.length_toList]; rfl
  rw [h] at e
  exact e.symm

theorem keepB2 {wc x y : World} {g j g2 j2 : Nat} {u u2 : Value} (h1 : x.cell? ⟨g, j, none⟩ = some u) (h3 : x.cell? ⟨g2, j2, none⟩ = some u2) (h2 : Below wc.heap.size wc x) (hb : Below x.heap.size x y) : y.cell? ⟨g, j, none⟩ = some u ∧ y.cell? ⟨g2, j2, none⟩ = some u2 ∧ Below wc.heap.size wc y :=
  ⟨(hb.cell (World.block_lt_of_cell? _ _ h1)).trans h1, (hb.cell (World.block_lt_of_cell? _ _ h3)).trans h3, h2.trans (hb.mono h2.size)⟩

set_option maxHeartbeats 4000000 in
set_option maxRecDepth 100000 in
theorem does_any {w : World} {B q n : Nat} {V : Value} {m : DSt} (x : Act9) (A : Option Addr) (c : Nat) (h : MRep w B q V m) (hok : DOk n m) (hn : n ≤ 1000) :
    Calls Try.prog 19 #[.pointer (some ⟨q, 0, none⟩), .agg #[.int .i64 x.f0, .string x.f1, .string x.f2, .int .i64 x.f3, .slice A x.f4.length c]] w fun e w' =>
      e = .returned (.int .i64 (mdo m x).1) ∧ MEx w' B q (mdo m x).2 ∧ Below B w w' := by
  have hB : B ≤ w.heap.size := Nat.le_trans h.1 (Nat.le_of_lt h.lt)
  have hq := h.lt
  have hbw : Below w.heap.size w (w.alloc (.cells (actv x A c) 44)) := (Below.refl _ _).alloc (Nat.le_refl _) _
  have HA := Lib.hid (h.below hbw)
  obtain ⟨c0, c1, c2, c3, c4, cf⟩ := box5 h.2.1
  have cf2 := cf 2
  have cf4 := cf 4
  have HOK := Lib.hid hok
  have H := Lib.hid h
  clear cf h
  by_cases ho : m.off = true
  · have hr : mdo m x = (6, m) := by
      have : beginS m x.f1 = (6, m) := by rw [beginS, if_pos ho]
      unfold mdo; rw [this]; rfl
    rw [hr]
    clear hr
    go_enter Try.func19, Try.ntmps19
    go_wp2_with fail
    go_ret
    exact ⟨rfl, ⟨_, HA.out⟩, hbw.mono hB⟩
  · have ho' : m.off = false := by simpa using ho
    clear ho
    by_cases ha : m.armed = true ∧ m.left = 0
    · have hr : mdo m x = (6, { m with off := true }) := by
        have : beginS m x.f1 = (6, { m with off := true }) := by rw [beginS, if_neg (by rw [ho']; decide), if_pos ha]
        unfold mdo; rw [this]; rfl
      rw [hr]
      obtain ⟨ha1, ha2⟩ := ha
      clear hr
      go_enter Try.func19, Try.ntmps19
      go_wp2_with fail
      go_ret
      exact ⟨rfl, ⟨_, MRep.below (MRep.set (s' := { m with off := true }) H.out 2 (.bool true) rfl rfl) ((Below.refl _ _).alloc (Nat.le_refl _) _)⟩, (Below.setCell (Below.refl _ _) (p := ⟨q, 2, none⟩) H.out.1 _).alloc (by rw [setCell_size]; exact hB) _⟩
    · obtain ⟨m1, hm1⟩ : ∃ m1 : DSt, m1 = { m with left := max (m.left - 1) 0 } := ⟨_, rfl⟩
      have hbg : beginS m x.f1 = (if badName x.f1 then 1 else 0, m1) := by rw [beginS, if_neg (by rw [ho']; decide), if_neg ha, hm1]
      have hfs : m1.fs = m.fs := by rw [hm1]
      have hrm : m1.room = m.room := by rw [hm1]
      obtain ⟨R, hR⟩ : ∃ R, R = mdo m x := ⟨_, rfl⟩
      rw [← hR]
      unfold mdo at hR
      rw [hbg, ← hfs] at hR
      have HBG := Lib.hid hbg
      have HM1 := Lib.hid hm1
      have HRR := Lib.hid hR
      have HOK1 := Lib.hid (show DOk n m1 by rw [hm1]; exact ⟨by show 0 ≤ max (m.left - 1) 0; omega, by have := hok.left1; show max (m.left - 1) 0 ≤ _; omega, hok.room, hok.use, hok.file, hok.len, hok.nodup⟩)
      have hl0 := hok.left0
      have hl1 := hok.left1
      clear hbg hm1 hR hfs hrm hok
      obtain ⟨wb, hwb⟩ : ∃ wb, wb = w.alloc (.cells #[.int .i64 x.f0, .string x.f1, .string x.f2, .int .i64 x.f3, .slice A x.f4.length c] 44) := ⟨_, rfl⟩
      have HMB := Lib.hid (show MRep wb B q V m by rw [hwb]; exact HA.out)
      have HBB := Lib.hid (show Below B w wb by rw [hwb]; exact hbw.mono hB)
      have hact : wb.heap[w.heap.size]? = some (.cells (actv x A c) 44) := by rw [hwb]; exact heap_alloc_new _ _
      have HACT := Lib.hid hact
      obtain ⟨b0, b1, b2, b3, b4, bf⟩ := box5 HMB.out.2.1
      have bf4 := bf 4
      clear c0 c1 c2 c3 c4 cf2 cf4 HA bf hbw hact
      go_enter Try.func19, Try.ntmps19
      go_upto_region 1 with fail
      rw [← hwb]
      clear hwb
      go_upto_region 3 with fail
      go_cut [20] (fun b wc => b = .bool false ∧ wc = wb)
      case first =>
        cases har : m.armed with
        | true =>
          rw [har] at b3
          have hl2 : (m.left == 0) = false := by
            rw [beq_eq_false_iff_ne]
            exact fun e => ha ⟨har, e⟩
          have hl3 : ¬ m.left = 0 := fun e => ha ⟨har, e⟩
          clear ha har
          go_wp2_with fail
          go_meet
          case rel => exact ⟨rfl, rfl⟩
        | false =>
          rw [har] at b3
          clear ha har
          go_wp2_with fail
          go_meet
          case rel => exact ⟨rfl, rfl⟩
      case rest =>
        obtain ⟨rfl, rfl⟩ := hcut
        clear b3 ha
        have hbs : w.heap.size < wc.heap.size := (Array.getElem?_eq_some_iff.1 HACT.out).1
        go_upto_if 28 with fail
        go_cut [] (fun wx => MRep wx B q V m1 ∧ wx.heap[w.heap.size]? = some (.cells (actv x A c) 44) ∧ Below B w wx)
        case first =>
          by_cases hpos : 0 < m.left
          · have hwr : IntKind.i64.wrap (m.left - 1) = m.left - 1 := IntWalk.i64_in _ (by omega)
            go_wp2_with fail
            go_meet
            case rel =>
              refine ⟨HMB.out.set 4 _ ?_ (by rw [HM1.out]), (Below.heap_setCell _ _ _ _ (by show w.heap.size ≠ q; omega)).trans HACT.out, HBB.out.setCell H.out.1 _⟩
              rw [HM1.out, show max (m.left - 1) 0 = m.left - 1 by omega]
              rfl
          · go_wp2_with fail
            go_meet
            case rel =>
              refine ⟨?_, HACT.out, HBB.out⟩
              have e : m1 = m := by rw [HM1.out, show max (m.left - 1) 0 = m.left by omega]
              rw [e]; exact HMB.out
        case rest =>
          obtain ⟨hm1, hac, hbx⟩ := hcut
          obtain ⟨a0, a1, a2, a3, a4, _⟩ := box5 hac
          obtain ⟨b0, b1, b2, b3, b4, _⟩ := box5 hm1.2.1
          have HM := Lib.hid hm1
          have HAC := Lib.hid hac
          have HBX := Lib.hid hbx
          clear hm1 hac hbx HMB HBB HACT
          by_cases hn1 : x.f1.toList = []
          · have hbad : badName x.f1 = true := decide_eq_true (.inl hn1)
            have hR := HRR.out
            rw [hbad] at hR
            have hRR : R = (1, m1) := hR
            subst hRR
            clear hbad hR
            have hsz : x.f1.size = 0 := toList_nil_size hn1
            go_wp2_with fail
            go_ret
            exact ⟨rfl, ⟨_, HM.out⟩, HBX.out⟩
          · have hsz : ¬ x.f1.size < 1 := fun h => hn1 (toList_nil h)
            by_cases hn2 : 32 < x.f1.size
            · have hbad : badName x.f1 = true := decide_eq_true (.inr hn2)
              have hR := HRR.out
              rw [hbad] at hR
              have hRR : R = (1, m1) := hR
              subst hRR
              clear hbad hR
              go_wp2_with fail
              go_ret
              exact ⟨rfl, ⟨_, HM.out⟩, HBX.out⟩
            · have hbad : badName x.f1 = false := by rw [Bool.eq_false_iff]; intro h; simp only [badName, decide_eq_true_eq] at h; rcases h with h | h; exact hn1 h; exact hn2 h
              have hR := HRR.out
              rw [hbad] at hR
              simp only [Bool.false_eq_true, if_false, if_true] at hR
              have HR := Lib.hid hR
              have hml : m1.fs.length ≤ 1000 := Nat.le_trans HOK1.out.len hn
              have hmu : used m1.fs ≤ 4611686018427387904 := by have h1 := HOK1.out.use; have h2 := HOK1.out.room; omega
              clear hbad hR hn1 HRR
              obtain ⟨F, hF⟩ : ∃ F, F = fix m1.fs x.f1 := ⟨_, rfl⟩
              have HFI := Lib.hid (show Calls Try.prog 20 #[.pointer (some ⟨q, 0, none⟩), .string x.f1] wc fun e w' => e = .returned (.int .i64 F) ∧ Below wc.heap.size wc w' by rw [hF]; exact mfind_any x.f1 HM.out (by omega))
              have hFr : F = -1 ∨ ∃ i : Nat, F = i ∧ i < m1.fs.length := by rw [hF]; exact fix_range _ _
              have hR := HR.out
              rw [← hF] at hR
              have HR := Lib.hid hR
              have HFR := Lib.hid hFr
              clear hR hF hFr a0 a2 a3 a4
              go_upto_region 11 with (go_at_call 20; refine HFI.out.mono ?_; rintro e w4 ⟨rfl, hb4⟩; have HM4 := Lib.hid (HM.out.below hb4); have HAC4 := Lib.hid ((hb4.block _ (Array.getElem?_eq_some_iff.1 HAC.out).1).trans HAC.out); have HB4 := Lib.hid (HBX.out.trans (hb4.mono (Nat.le_trans hB HBX.out.size))); clear hb4)
              obtain ⟨e0, e1, e2, e3, e4, _⟩ := box5 HAC4.out
              obtain ⟨d0, d1, d2, d3, d4, _⟩ := box5 HM4.out.2.1
              have hws : w.heap.size < w4.heap.size := (Array.getElem?_eq_some_iff.1 HAC4.out).1
              clear a1 b0 b1 b2 b3 b4
              by_cases k0 : x.f0 = 0
              · have hrs : IntKind.i64.wrap (m1.room - (used m1.fs : Int)) = m1.room - (used m1.fs : Int) := IntWalk.i64_in _ (by have h1 := HOK1.out.use; have h2 := HOK1.out.room; omega)
                have hbx := (Below.refl w4.heap.size w4).drew
                have hdx : w4.drew.cell? ⟨q, 0, none⟩ = some (.int .i64 m1.room) := d0
                have hdy : w4.drew.cell? ⟨w.heap.size, 2, none⟩ = some (.string x.f2) := e2
                by_cases hbig : m1.room - (used m1.fs : Int) < (x.f2.size : Int)
                · have hRR : R = (6, m1) := by rw [HR.out, if_pos k0, if_pos hbig]
                  subst hRR
                  clear HR
                  go_wp2_with fail
                  go_region_held3 (fun x' => x'.cell? ⟨q, 0, none⟩ = some (.int .i64 m1.room) ∧ x'.cell? ⟨w.heap.size, 2, none⟩ = some (.string x.f2) ∧ Below w4.heap.size w4 x') (first | (refine ⟨?_, ?_, ?_⟩ <;> assumption) | go_keep)
                    (first | (go_at_call 27; refine (mused_any (HM4.out.below ?_) (by omega) hmu).mono ?_; assumption; rintro e w5 ⟨rfl, hb5⟩; obtain ⟨hs5, ht5, hx5⟩ := keepB2 (g := q) (j := 0) (g2 := w.heap.size) (j2 := 2) (by assumption) (by assumption) (by assumption) hb5))
                  go_wp2_with fail
                  go_ret
                  exact ⟨rfl, ⟨_, HM4.out.below hx5⟩, HB4.out.trans (hx5.mono (Nat.le_trans hB HB4.out.size))⟩
                · have hRR := HR.out
                  rw [if_pos k0, if_neg hbig] at hRR
                  have HR := Lib.hid hRR
                  clear hRR
                  go_wp2_with fail
                  go_region_held3 (fun x' => x'.cell? ⟨q, 0, none⟩ = some (.int .i64 m1.room) ∧ x'.cell? ⟨w.heap.size, 2, none⟩ = some (.string x.f2) ∧ Below w4.heap.size w4 x') (first | (refine ⟨?_, ?_, ?_⟩ <;> assumption) | go_keep)
                    (first | (go_at_call 27; refine (mused_any (HM4.out.below ?_) (by omega) hmu).mono ?_; assumption; rintro e w5 ⟨rfl, hb5⟩; obtain ⟨hs5, ht5, hx5⟩ := keepB2 (g := q) (j := 0) (g2 := w.heap.size) (j2 := 2) (by assumption) (by assumption) (by assumption) hb5))
                  have HM5 := Lib.hid (HM4.out.below hx5)
                  have HAC5 := Lib.hid ((hx5.block _ hws).trans HAC4.out)
                  have HB5 := Lib.hid (HB4.out.trans (hx5.mono (Nat.le_trans hB HB4.out.size)))
                  have hw5 : w.heap.size < w5.heap.size := (Array.getElem?_eq_some_iff.1 HAC5.out).1
                  clear e0 e1 e2 e3 e4 d0 d1 d2 d3 d4
                  obtain ⟨y0, y1, _⟩ := box5 HAC5.out
                  go_upto_if 65 with fail
                  go_cut [5] (fun iv wx => ∃ (k : Nat) (m2 : DSt) (V2 : Value), iv = .int .i64 k ∧ k < m2.fs.length ∧ m2.fs.length ≤ 1001 ∧ MRep wx B q V2 m2 ∧ wx.heap[w.heap.size]? = some (.cells (actv x A c) 44) ∧ Below B w wx ∧ R = (0, { m2 with fs := putF m2.fs k ((m2.fs.getD k zfile).data ++ x.f2) (m2.fs.getD k zfile).safe }) ∧ (m2.fs.getD k zfile).data.size + x.f2.size ≤ 4194304)
                  case first =>
                    rcases HFR.out with rfl | ⟨i, rfl, hi⟩
                    · go_wp2_with (go_at_call 28; refine (make_any x.f1 HM5.out hml).mono ?_; rintro e w6 ⟨rfl, V6, hm6, hf6⟩; have HM6 := Lib.hid hm6; have HF6 := Lib.hid hf6; clear hm6 hf6)
                      go_meet
                      case rel =>
                        have hr := HR.out
                        rw [if_pos (by decide)] at hr
                        have hz : ((insF m1.fs x.f1).getD (insAt m1.fs x.f1) zfile).data.size = 0 := by rw [insF_get]; rfl
                        have h1 := HOK1.out.use
                        have h2 := HOK1.out.room
                        exact ⟨insAt m1.fs x.f1, { m1 with fs := insF m1.fs x.f1 }, V6, rfl, insF_lt _ _, by rw [insF_size]; omega, HM6.out, (HF6.out.block _ hw5 (by omega)).trans HAC5.out, HB5.out.trans (HF6.out.to_below (Nat.le_trans hB HB5.out.size) fun b hb e => by subst e; have := H.out.1; omega), hr, by show ((insF m1.fs x.f1).getD (insAt m1.fs x.f1) zfile).data.size + _ ≤ _; omega⟩
                    · go_wp2_with fail
                      go_meet
                      case rel =>
                        have hr := HR.out
                        rw [if_neg (by omega), Int.toNat_natCast] at hr
                        have h1 := HOK1.out.use
                        have h2 := HOK1.out.room
                        have h3 := used_mem (getD_mem hi)
                        exact ⟨i, m1, V, rfl, hi, by omega, HM5.out, HAC5.out, HB5.out, hr, by omega⟩
                  case rest =>
                    obtain ⟨k, m2, V2, rfl, hk2, hk3, hm2, hac, hb2, hr2, hcat⟩ := hcut
                    obtain ⟨g, cap, rfl, hcap, hBg, hgl, hgq, f0, f1, f2, ff⟩ := hm2.file' hk2
                    obtain ⟨e0, e1, e2, e3, e4, _⟩ := box5 hac
                    obtain ⟨d0, d1, d2, d3, d4, _⟩ := box5 hm2.2.1
                    obtain ⟨dat, hdat⟩ : ∃ dat, dat = (m2.fs.getD k zfile).data := ⟨_, rfl⟩
                    rw [← hdat] at f1 hcat hr2
                    have hR2 := Lib.hid hr2
                    have HM2 := Lib.hid hm2
                    have HB2 := Lib.hid hb2
                    have ffd := ff (k * 3 + 1)
                    have HFD := Lib.hid (fcells_data hk2 (dat ++ x.f2))
                    have hk4 : (0 : Int) ≤ (k : Int) := by omega
                    have hk5 : (k : Int) < (m2.fs.length : Int) := by omega
                    clear hr2 hm2 hb2 ff hdat hac
                    go_upto_region 16 with fail
                    have hcl : ¬ 9223372036854775807 < dat.size + x.f2.size := by omega
                    go_still_tail 16, (by kernel_rfl)
                    change wpList _ _ _ _ _ wc.drew
                    go_wp2_with fail
                    rw [hR2.out]
                    go_ret
                    exact ⟨rfl, ⟨_, MRep.drew (HM2.out.setFile (k * 3 + 1) (.string (dat ++ x.f2)) _ (putF_length _ _ _ _) HFD.out)⟩, (Below.setCell HB2.out (p := ⟨g, k * 3 + 1, none⟩) hBg _).drew⟩
              · have hR := HR.out
                rw [if_neg k0] at hR
                rcases HFR.out with rfl | ⟨i, rfl, hi⟩
                · rw [if_pos (by decide)] at hR
                  subst hR
                  clear HR
                  go_wp2_with fail
                  go_ret
                  exact ⟨rfl, ⟨_, HM4.out⟩, HB4.out⟩
                · rw [if_neg (by omega), Int.toNat_natCast] at hR
                  obtain ⟨g, cap, rfl, hcap, hBg, hgl, hgq, f0, f1, f2, ff⟩ := HM4.out.file' hi
                  obtain ⟨dat, hdat⟩ : ∃ dat, dat = (m1.fs.getD i zfile).data := ⟨_, rfl⟩
                  obtain ⟨sf, hsf⟩ : ∃ sf, sf = (m1.fs.getD i zfile).safe := ⟨_, rfl⟩
                  rw [← hdat] at f1
                  rw [← hsf] at f2
                  rw [← hdat] at hR
                  have ff1 := ff (i * 3 + 1)
                  have ff2 := ff (i * 3 + 2)
                  have hgw : w.heap.size ≠ g := fun e => by
                    obtain ⟨cur, hc⟩ := own_kind HM4.out.2.2 (g := g) rfl
                    rw [← e, HAC4.out] at hc
                    simp only [Option.some.injEq, Obj.cells.injEq] at hc
                    exact absurd hc.2.1 (by decide)
                  have hk4 : (0 : Int) ≤ (i : Int) := by omega
                  have hk5 : (i : Int) < (m1.fs.length : Int) := by omega
                  have HDAT := Lib.hid hdat
                  have HSF := Lib.hid hsf
                  clear HR ff hdat hsf
                  by_cases k1 : x.f0 = 1
                  · rw [if_pos k1] at hR
                    subst hR
                    have HFD := Lib.hid (fcells_safe hi dat.size)
                    go_wp2_with fail
                    go_still_tail 14, (by kernel_rfl)
                    change wpList _ _ _ _ _ w4.drew
                    go_wp2_with fail
                    go_ret
                    exact ⟨rfl, ⟨_, MRep.drew (HM4.out.setFile (i * 3 + 2) (.int .i64 dat.size) _ (putF_length _ _ _ _) (by rw [HFD.out, ← HDAT.out]))⟩, (Below.setCell HB4.out (p := ⟨g, i * 3 + 2, none⟩) hBg _).drew⟩
                  · rw [if_neg k1] at hR
                    by_cases hneg : x.f3 < 0
                    · rw [if_pos (.inl hneg)] at hR
                      subst hR
                      have hdn : decide (x.f3 < 0) = true := decide_eq_true hneg
                      go_wp2_with fail
                      go_quiet (fail)
                      go_wp2_with fail
                      go_ret
                      exact ⟨rfl, ⟨_, show MRep (w4.drewN nq) B q _ m1 from HM4.out⟩, below_drewN HB4.out nq⟩
                    · by_cases hbig : (dat.size : Int) < x.f3
                      · rw [if_pos (.inr hbig)] at hR
                        subst hR
                        have hdn : decide (x.f3 < 0) = false := decide_eq_false hneg
                        have hdb : decide ((dat.size : Int) < x.f3) = true := decide_eq_true hbig
                        go_wp2_with fail
                        go_quiet (fail)
                        go_wp2_with fail
                        go_ret
                        exact ⟨rfl, ⟨_, show MRep (w4.drewN nq) B q _ m1 from HM4.out⟩, below_drewN HB4.out nq⟩
                      · rw [if_neg (by rintro (h | h); exact hneg h; exact hbig h)] at hR
                        have HR := Lib.hid hR
                        have hdn : decide (x.f3 < 0) = false := decide_eq_false hneg
                        have hdb : decide ((dat.size : Int) < x.f3) = false := decide_eq_false hbig
                        have hp0 : 0 ≤ x.f3 := by omega
                        have hp1 : x.f3 ≤ (dat.size : Int) := by omega
                        clear hR
                        go_wp2_with fail
                        go_quiet (fail)
                        go_wp2_with fail
                        obtain ⟨wy, hwy⟩ : ∃ wy, wy = w4.drewN nq := ⟨_, rfl⟩
                        have f1y : wy.cell? ⟨g, i * 3 + 1, none⟩ = some (.string dat) := by rw [hwy]; exact f1
                        have d1y : wy.cell? ⟨q, 1, none⟩ = some (.slice (some ⟨g, 0, none⟩) m1.fs.length cap) := by rw [hwy]; exact d1
                        have e3y : wy.cell? ⟨w.heap.size, 3, none⟩ = some (.int .i64 x.f3) := by rw [hwy]; exact e3
                        have ff1y : wy.frozen? ⟨g, i * 3 + 1, none⟩ = false := by rw [hwy]; exact ff1
                        have HMY := Lib.hid (show MRep wy B q (.slice (some ⟨g, 0, none⟩) m1.fs.length cap) m1 by rw [hwy]; exact HM4.out)
                        have HBY := Lib.hid (show Below B w wy by rw [hwy]; exact below_drewN HB4.out nq)
                        have HACY := Lib.hid (show wy.heap[w.heap.size]? = some (.cells (actv x A c) 44) by rw [hwy]; exact HAC4.out)
                        rw [← hwy]
                        clear hwy
                        go_still_tail 16, (by kernel_rfl)
                        change wpList _ _ _ _ _ wy.drew
                        go_upto_region 26 with fail
                        obtain ⟨wz, hwz⟩ : ∃ wz, wz = (wy.setCell ⟨g, i * 3 + 1, none⟩ (.string (dat.extract 0 x.f3.toNat))).drew := ⟨_, rfl⟩
                        have hmz : MRep wz B q (.slice (some ⟨g, 0, none⟩) m1.fs.length cap) { m1 with fs := putF m1.fs i (dat.extract 0 x.f3.toNat) (m1.fs.getD i zfile).safe } := by
                          rw [hwz]
                          exact MRep.drew (HMY.out.setFile (i * 3 + 1) (.string (dat.extract 0 x.f3.toNat)) _ (putF_length _ _ _ _) (fcells_data hi _))
                        have HMZ := Lib.hid hmz
                        have HBZ := Lib.hid (show Below B w wz by rw [hwz]; exact (Below.setCell HBY.out (p := ⟨g, i * 3 + 1, none⟩) hBg _).drew)
                        obtain ⟨_, d1z, _, _, _, _⟩ := box5 hmz.2.1
                        have e3z : wz.cell? ⟨w.heap.size, 3, none⟩ = some (.int .i64 x.f3) := by
                          rw [hwz]
                          exact ((World.cell?_of_block (w := wy) (Below.heap_setCell _ _ _ _ (by show w.heap.size ≠ g; exact hgw))).trans e3y : (wy.setCell ⟨g, i * 3 + 1, none⟩ (.string (dat.extract 0 x.f3.toNat))).cell? ⟨w.heap.size, 3, none⟩ = _)
                        obtain ⟨_, _, eg, _, _, _, _, _, _, _, ffz⟩ := hmz.file' (k := i) (by show i < (putF _ _ _ _).length; rw [putF_length]; exact hi)
                        simp only [Value.slice.injEq, Option.some.injEq, Addr.mk.injEq] at eg
                        have hgeq := eg.1.1
                        clear eg
                        subst hgeq
                        have ff2z := ffz (i * 3 + 2)
                        rw [← hwz]
                        clear hwz hmz ffz f1y d1y e3y ff1y
                        go_still_tail 7, (by kernel_rfl)
                        change wpList _ _ _ _ _ wz.drew
                        go_wp2_with fail
                        rw [HR.out]
                        go_ret
                        have h1 := HMZ.out.setFile (i * 3 + 2) (.int .i64 (x.f3.toNat : Nat)) _ (putF_length _ _ _ _) (fcells_safe (by show i < (putF _ _ _ _).length; rw [putF_length]; exact hi) x.f3.toNat)
                        rw [putF_putF hi, Int.toNat_of_nonneg hp0] at h1
                        exact ⟨rfl, ⟨_, h1.drew⟩, (Below.setCell HBZ.out (p := ⟨_, i * 3 + 2, none⟩) hBg _).drew⟩

end Go.Proofs.Ytdogmcpmlglkfaa
