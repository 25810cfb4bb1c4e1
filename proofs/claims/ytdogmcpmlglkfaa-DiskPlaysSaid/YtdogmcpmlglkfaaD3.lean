/- Walks of package disk: Append, Sync, Cut. -/
import Derived.Test.YtdogmcpmlglkfaaD2
import Derived.Deep.RegionHeld3
import Derived.StillTailTactics
namespace Go.Proofs.Ytdogmcpmlglkfaa
open Go.RowKit

theorem dget_name {fs : List DFile} {name : ByteArray} {f : DFile} (h : dget fs name = some f) : f.name = name := by
  have := List.find?_some h
  simpa using this

/-- A file that is put: what the map then holds. -/
theorem DRep.put {w w' : World} {p r : Nat} {s : DSt} (h : DRep w p r s) (f : DFile) (name : ByteArray) (v : Value) (hn : f.name = name) (hv : fval f = v) (hm : MapL w' r (mput (s.fs.map fent) name v)) (hg : w.grownBy w' (some r)) : DRep w' p r { s with fs := dput s.fs f } := by
  refine ⟨(hg.block p h.lt (fun e => h.ne (Option.some.inj e).symm)).trans h.1, ?_⟩
  rw [← hn, ← hv, mput_dmap] at hm
  exact hm

theorem used_mem {fs : List DFile} {f : DFile} (h : f ∈ fs) : f.data.size ≤ used fs := by
  unfold used
  induction fs with
  | nil => cases h
  | cons g fs ih =>
    simp only [List.map_cons, List.sum_cons]
    rcases List.mem_cons.1 h with e | h
    · rw [e]; omega
    · have := ih h; omega

theorem dget_mem {fs : List DFile} {name : ByteArray} {f : DFile} (h : dget fs name = some f) : f ∈ fs := List.mem_of_find?_eq_some h

def appendS (s : DSt) (name data : ByteArray) : Int × DSt :=
  if (beginS s name).1 = 0 then
    if (beginS s name).2.room - (used s.fs : Int) < (data.size : Int) then (6, (beginS s name).2)
    else (0, { (beginS s name).2 with fs := dput s.fs ⟨name, ((dget s.fs name).getD zfile).data ++ data, ((dget s.fs name).getD zfile).safe⟩ })
  else ((beginS s name).1, (beginS s name).2)

theorem append_nil (name data : ByteArray) (w : World) : Calls Try.prog 10 #[.pointer none, .string name, .string data] w fun e w' => e = .returned (.int .i64 1) ∧ w' = w := by
  go_enter Try.func10, Try.ntmps10
  go_wp2_with (go_at_call 24; refine (begin_nil name _).mono ?_; rintro e w1 ⟨rfl, rfl⟩)
  go_ret
  exact ⟨rfl, rfl⟩

set_option maxHeartbeats 1000000 in
theorem append_any {w : World} {p r : Nat} {s : DSt} (name data : ByteArray) (h : DRep w p r s) (hl : 0 ≤ s.left) (hl2 : s.left ≤ 9223372036854775807) (hroom : s.room ≤ 4194304) (hu : (used s.fs : Int) ≤ s.room) :
    Calls Try.prog 10 #[.pointer (some ⟨p, 0, none⟩), .string name, .string data] w fun e w' => e = .returned (.int .i64 (appendS s name data).1) ∧ DRep w' p r (appendS s name data).2 ∧ DFr p r w w' := by
  have hbg := begin_any name h hl hl2
  have hfs := beginS_fs s name
  have hrm := beginS_room s name
  obtain ⟨R, happ⟩ : ∃ R, R = appendS s name data := ⟨_, rfl⟩
  rw [← happ]
  unfold appendS at happ
  obtain ⟨E, hE⟩ : ∃ E, E = (beginS s name).1 := ⟨_, rfl⟩
  obtain ⟨s', hs'⟩ : ∃ s', s' = (beginS s name).2 := ⟨_, rfl⟩
  rw [← hE, ← hs'] at hbg happ
  rw [← hs'] at hfs hrm
  have HBG := Lib.hid hbg
  by_cases he : E = 0
  · by_cases hbig : s'.room - (used s.fs : Int) < (data.size : Int)
    · rw [if_pos he, if_pos hbig] at happ
      subst happ
      subst he
      have HFS := Lib.hid hfs
      have hbig' : s'.room - (used s'.fs : Int) < (data.size : Int) := by rw [hfs]; exact hbig
      have hwr : IntKind.i64.wrap (s'.room - (used s'.fs : Int)) = s'.room - (used s'.fs : Int) := IntWalk.i64_in _ (by rw [hfs]; omega)
      have hu' : used s'.fs ≤ 4611686018427387904 := by rw [hfs]; omega
      clear hbg h hs' hfs hE hbig hrm
      go_enter Try.func10, Try.ntmps10
      go_wp2_with (go_at_call 24; refine HBG.out.mono ?_; rintro e w1 ⟨rfl, hd1, hf1⟩; obtain ⟨d0, d1, d2, d3, d4, df⟩ := box5 hd1.1; have HD1 := Lib.hid hd1; have HF1 := Lib.hid hf1; clear df hd1 hf1)
      have hbx := (Below.refl w1.heap.size w1).drew
      have hdx : w1.drew.cell? ⟨p, 0, none⟩ = some (.int .i64 s'.room) := d0
      go_region_held3 (fun x => x.cell? ⟨p, 0, none⟩ = some (.int .i64 s'.room) ∧ Below w1.heap.size w1 x) (first | (refine ⟨?_, ?_⟩ <;> assumption) | go_keep)
        (first | (go_at_call 16; refine (used_any (HD1.out.below ?_) hu').mono ?_; assumption; rintro e w2 ⟨rfl, hb2⟩; obtain ⟨hs2, hx2⟩ := keepB (by assumption) (by assumption) hb2))
      go_wp2_with fail
      go_ret
      exact ⟨rfl, HD1.out.below hx2, HF1.out.trans (Fr.of_below (S := fun _ => False) hx2) fun _ _ h => h.elim⟩
    · rw [if_pos he, if_neg hbig] at happ
      subst he
      have HFS := Lib.hid hfs
      have hbig' : ¬ s'.room - (used s'.fs : Int) < (data.size : Int) := by rw [hfs]; exact hbig
      have hwr : IntKind.i64.wrap (s'.room - (used s'.fs : Int)) = s'.room - (used s'.fs : Int) := IntWalk.i64_in _ (by rw [hfs]; omega)
      have hu' : used s'.fs ≤ 4611686018427387904 := by rw [hfs]; omega
      have hget : ∃ f : DFile, ((dget s.fs name).getD zfile) = f ∧ (mget (s'.fs.map fent) name).getD (.agg #[.string ⟨#[]⟩, .int .i64 0]) = .agg #[.string f.data, .int .i64 f.safe] := by
        refine ⟨_, rfl, ?_⟩
        rw [mget_dmap, hfs]
        cases dget s.fs name <;> rfl
      have hsz : ((dget s.fs name).getD zfile).data.size ≤ used s.fs := by
        cases hc : dget s.fs name with
        | none => exact Nat.zero_le _
        | some g => exact used_mem (dget_mem hc)
      obtain ⟨f, hf, hg⟩ := hget
      rw [hf] at hsz
      have hcat : f.data.size + data.size ≤ 4194304 := by rw [hrm] at hbig; omega
      rw [hf] at happ
      subst happ
      have HG := Lib.hid hg
      clear hbg h hs' hfs hE hbig hrm hf hg
      go_enter Try.func10, Try.ntmps10
      go_wp2_with (go_at_call 24; refine HBG.out.mono ?_; rintro e w1 ⟨rfl, hd1, hf1⟩; obtain ⟨d0, d1, d2, d3, d4, df⟩ := box5 hd1.1; have HD1 := Lib.hid hd1; have HF1 := Lib.hid hf1; clear df hd1 hf1)
      have hbx := (Below.refl w1.heap.size w1).drew
      have hdx : w1.drew.cell? ⟨p, 0, none⟩ = some (.int .i64 s'.room) := d0
      go_region_held3 (fun x => x.cell? ⟨p, 0, none⟩ = some (.int .i64 s'.room) ∧ Below w1.heap.size w1 x) (first | (refine ⟨?_, ?_⟩ <;> assumption) | go_keep)
        (first | (go_at_call 16; refine (used_any (HD1.out.below ?_) hu').mono ?_; assumption; rintro e w2 ⟨rfl, hb2⟩; obtain ⟨hs2, hx2⟩ := keepB (by assumption) (by assumption) hb2))
      have HD2 := Lib.hid (HD1.out.below hx2)
      obtain ⟨c0, c1, c2, c3, c4, cf⟩ := box5 HD2.out.1
      clear cf
      go_wp2_with (at_lookup; refine wpList_lookup_L _ rfl _ _ 55 false rfl 9 59 Try.underlying55 Try.underlying9 _ (zero_file _) r _ rfl HD2.out.2 name rfl ?_; simp only [Bool.false_eq_true, if_false]; rw [HG.out])
      obtain ⟨wx, hwx⟩ : ∃ wx, wx = w2.alloc (.cells #[.string (f.data ++ data), .int .i64 f.safe] 59) := ⟨_, rfl⟩
      have hbw : Below w2.heap.size w2 wx := by rw [hwx]; exact (Below.refl _ _).alloc (Nat.le_refl _) _
      obtain ⟨e0, e1, _⟩ := box2 (w := wx) (by rw [hwx]; exact heap_alloc_new _ _)
      have m1 := (hbw.cell (World.block_lt_of_cell? _ _ c1)).trans c1
      have HDX := Lib.hid (show DRep wx.drew p r s' from HD2.out.below hbw.drew)
      rw [← hwx]
      clear hwx
      go_still_tail 6, (by kernel_rfl)
      change wpList _ _ _ _ _ wx.drew
      go_wp2_with (at_mapUpdate; refine wpList_mapUpdate_L _ rfl _ _ _ 55 rfl 9 59 Try.underlying55 Try.underlying9 r _ rfl HDX.out.2 name (.agg #[.string (f.data ++ data), .int .i64 f.safe]) rfl rfl ?_; intro w4 hm4 hg4 hs4)
      go_ret
      have hput := HDX.out.put ⟨name, f.data ++ data, f.safe⟩ name _ rfl rfl hm4 hg4
      rw [HFS.out] at hput
      exact ⟨rfl, hput, ((HF1.out.trans (Fr.of_below (S := fun _ => False) (hx2.trans (hbw.drew.mono hx2.size))) fun _ _ h => h.elim).grown hg4 fun b hb => .inr (.inr (Option.some.inj hb).symm))⟩
  · rw [if_neg he] at happ
    subst happ
    clear hbg h hs' hfs hrm hE
    go_enter Try.func10, Try.ntmps10
    go_wp2_with (go_at_call 24; refine HBG.out.mono ?_; rintro e w1 ⟨rfl, hd1, hf1⟩; have HD1 := Lib.hid hd1; have HF1 := Lib.hid hf1; clear hd1 hf1)
    go_ret
    exact ⟨rfl, HD1.out, HF1.out⟩

/-! ### Sync -/
def syncS (s : DSt) (name : ByteArray) : Int × DSt :=
  if (thereS s name).2 = 0 then (0, { (beginS s name).2 with fs := dput s.fs ⟨name, (thereS s name).1.data, (thereS s name).1.data.size⟩ })
  else ((thereS s name).2, (beginS s name).2)

theorem sync_nil (name : ByteArray) (w : World) : Calls Try.prog 11 #[.pointer none, .string name] w fun e w' => e = .returned (.int .i64 1) ∧ Below w.heap.size w w' := by
  go_enter Try.func11, Try.ntmps11
  go_wp2_with (go_at_call 25; refine (there_nil name _).mono ?_; rintro e w1 ⟨rfl, hb1⟩)
  go_ret
  exact ⟨rfl, hb1.alloc hb1.size _⟩

set_option maxHeartbeats 1000000 in
theorem sync_any {w : World} {p r : Nat} {s : DSt} (name : ByteArray) (h : DRep w p r s) (hl : 0 ≤ s.left) (hl2 : s.left ≤ 9223372036854775807) :
    Calls Try.prog 11 #[.pointer (some ⟨p, 0, none⟩), .string name] w fun e w' => e = .returned (.int .i64 (syncS s name).1) ∧ DRep w' p r (syncS s name).2 ∧ DFr p r w w' := by
  have hth := fun w0 (hw : Below w.heap.size w w0) => there_any (w := w0) name (h.below hw) hl hl2
  have hfs := beginS_fs s name
  obtain ⟨R, happ⟩ : ∃ R, R = syncS s name := ⟨_, rfl⟩
  rw [← happ]
  unfold syncS at happ
  obtain ⟨f, hf⟩ : ∃ f, f = (thereS s name).1 := ⟨_, rfl⟩
  obtain ⟨E, hE⟩ : ∃ E, E = (thereS s name).2 := ⟨_, rfl⟩
  obtain ⟨s', hs'⟩ : ∃ s', s' = (beginS s name).2 := ⟨_, rfl⟩
  rw [← hE, ← hs', ← hf] at happ
  simp only [← hE, ← hs', ← hf] at hth
  rw [← hs'] at hfs
  have HTH := Lib.hid hth
  have HFS := Lib.hid hfs
  by_cases he : E = 0
  · rw [if_pos he] at happ
    subst happ
    subst he
    clear hth h hs' hE hf hfs
    go_enter Try.func11, Try.ntmps11
    go_wp2_with (go_at_call 25; refine (HTH.out _ (Below.refl _ _)).mono ?_; rintro e w1 ⟨rfl, hd1, hf1⟩; obtain ⟨d0, d1, d2, d3, d4, df⟩ := box5 hd1.1; have HD1 := Lib.hid hd1; have HF1 := Lib.hid hf1; clear df hd1 hf1)
    obtain ⟨wx, hwx⟩ : ∃ wx, wx = w1.alloc (.cells #[.string f.data, .int .i64 (f.data.size : Nat)] 59) := ⟨_, rfl⟩
    have hbw : Below w1.heap.size w1 wx := by rw [hwx]; exact (Below.refl _ _).alloc (Nat.le_refl _) _
    obtain ⟨e0, e1, _⟩ := box2 (w := wx) (by rw [hwx]; exact heap_alloc_new _ _)
    have m1 := (hbw.cell (World.block_lt_of_cell? _ _ d1)).trans d1
    have HDX := Lib.hid (show DRep wx.drew p r s' from HD1.out.below hbw.drew)
    rw [← hwx]
    clear hwx
    go_still_tail 6, (by kernel_rfl)
    change wpList _ _ _ _ _ wx.drew
    go_wp2_with (at_mapUpdate; refine wpList_mapUpdate_L _ rfl _ _ _ 55 rfl 9 59 Try.underlying55 Try.underlying9 r _ rfl HDX.out.2 name (.agg #[.string f.data, .int .i64 (f.data.size : Nat)]) rfl rfl ?_; intro w4 hm4 hg4 hs4)
    go_ret
    have hput := HDX.out.put ⟨name, f.data, f.data.size⟩ name _ rfl rfl hm4 hg4
    rw [HFS.out] at hput
    exact ⟨rfl, hput, ((HF1.out.trans (Fr.of_below (S := fun _ => False) hbw.drew) fun _ _ h => h.elim).grown hg4 fun b hb => .inr (.inr (Option.some.inj hb).symm))⟩
  · rw [if_neg he] at happ
    subst happ
    clear hth h hs' hE hf hfs
    go_enter Try.func11, Try.ntmps11
    go_wp2_with (go_at_call 25; refine (HTH.out _ (Below.refl _ _)).mono ?_; rintro e w1 ⟨rfl, hd1, hf1⟩; obtain ⟨d0, d1, d2, d3, d4, df⟩ := box5 hd1.1; have HD1 := Lib.hid hd1; have HF1 := Lib.hid hf1; clear df hd1 hf1)
    go_ret
    exact ⟨rfl, HD1.out.below ((Below.refl _ _).alloc (Nat.le_refl _) _), HF1.out.alloc _⟩

/-! ### Cut -/
def cutS (s : DSt) (name : ByteArray) (n : Int) : Int × DSt :=
  if (thereS s name).2 = 0 then
    if n < 0 ∨ ((thereS s name).1.data.size : Int) < n then (1, (beginS s name).2)
    else (0, { (beginS s name).2 with fs := dput s.fs ⟨name, (thereS s name).1.data.extract 0 n.toNat, n.toNat⟩ })
  else ((thereS s name).2, (beginS s name).2)

theorem cut_nil (name : ByteArray) (n : Int) (w : World) : Calls Try.prog 26 #[.pointer none, .string name, .int .i64 n] w fun e w' => e = .returned (.int .i64 1) ∧ Below w.heap.size w w' := by
  go_enter Try.func26, Try.ntmps26
  go_wp2_with (go_at_call 25; refine (there_nil name _).mono ?_; rintro e w1 ⟨rfl, hb1⟩)
  go_ret
  exact ⟨rfl, hb1.alloc hb1.size _⟩

set_option maxHeartbeats 1000000 in
theorem cut_any {w : World} {p r : Nat} {s : DSt} (name : ByteArray) (n : Int) (h : DRep w p r s) (hl : 0 ≤ s.left) (hl2 : s.left ≤ 9223372036854775807) :
    Calls Try.prog 26 #[.pointer (some ⟨p, 0, none⟩), .string name, .int .i64 n] w fun e w' => e = .returned (.int .i64 (cutS s name n).1) ∧ DRep w' p r (cutS s name n).2 ∧ DFr p r w w' := by
  have hth := fun w0 (hw : Below w.heap.size w w0) => there_any (w := w0) name (h.below hw) hl hl2
  have hfs := beginS_fs s name
  obtain ⟨R, happ⟩ : ∃ R, R = cutS s name n := ⟨_, rfl⟩
  rw [← happ]
  unfold cutS at happ
  obtain ⟨f, hf⟩ : ∃ f, f = (thereS s name).1 := ⟨_, rfl⟩
  obtain ⟨E, hE⟩ : ∃ E, E = (thereS s name).2 := ⟨_, rfl⟩
  obtain ⟨s', hs'⟩ : ∃ s', s' = (beginS s name).2 := ⟨_, rfl⟩
  rw [← hE, ← hs', ← hf] at happ
  simp only [← hE, ← hs', ← hf] at hth
  rw [← hs'] at hfs
  have HTH := Lib.hid hth
  have HFS := Lib.hid hfs
  by_cases he : E = 0
  · rw [if_pos he] at happ
    subst he
    by_cases hbad : n < 0 ∨ (f.data.size : Int) < n
    · rw [if_pos hbad] at happ
      subst happ
      clear hth h hs' hE hf hfs
      rcases hbad with hb | hb
      · go_enter Try.func26, Try.ntmps26
        go_wp2_with (go_at_call 25; refine (HTH.out _ (Below.refl _ _)).mono ?_; rintro e w1 ⟨rfl, hd1, hf1⟩; obtain ⟨d0, d1, d2, d3, d4, df⟩ := box5 hd1.1; have HD1 := Lib.hid hd1; have HF1 := Lib.hid hf1; clear df hd1 hf1)
        go_ret
        exact ⟨rfl, HD1.out.below ((Below.refl _ _).alloc (Nat.le_refl _) _), HF1.out.alloc _⟩
      · have hb0 : ¬ n < 0 := by omega
        go_enter Try.func26, Try.ntmps26
        go_wp2_with (go_at_call 25; refine (HTH.out _ (Below.refl _ _)).mono ?_; rintro e w1 ⟨rfl, hd1, hf1⟩; obtain ⟨d0, d1, d2, d3, d4, df⟩ := box5 hd1.1; have HD1 := Lib.hid hd1; have HF1 := Lib.hid hf1; clear df hd1 hf1)
        go_ret
        exact ⟨rfl, HD1.out.below ((Below.refl _ _).alloc (Nat.le_refl _) _), HF1.out.alloc _⟩
    · rw [if_neg hbad] at happ
      subst happ
      clear hth h hs' hE hf hfs
      have hb1 : ¬ n < 0 := fun h => hbad (.inl h)
      have hb2 : ¬ (f.data.size : Int) < n := fun h => hbad (.inr h)
      have hb3 : 0 ≤ n := by omega
      have hb4 : n ≤ (f.data.size : Int) := by omega
      clear hbad
      go_enter Try.func26, Try.ntmps26
      go_wp2_with (go_at_call 25; refine (HTH.out _ (Below.refl _ _)).mono ?_; rintro e w1 ⟨rfl, hd1, hf1⟩; obtain ⟨d0, d1, d2, d3, d4, df⟩ := box5 hd1.1; have HD1 := Lib.hid hd1; have HF1 := Lib.hid hf1; clear df hd1 hf1)
      obtain ⟨wx, hwx⟩ : ∃ wx, wx = w1.alloc (.cells #[.string f.data, .int .i64 f.safe] 59) := ⟨_, rfl⟩
      have hbw : Below w1.heap.size w1 wx := by rw [hwx]; exact (Below.refl _ _).alloc (Nat.le_refl _) _
      obtain ⟨e0, e1, _⟩ := box2 (w := wx) (by rw [hwx]; exact heap_alloc_new _ _)
      have m1 := (hbw.cell (World.block_lt_of_cell? _ _ d1)).trans d1
      have HDX := Lib.hid (show DRep wx.drew p r s' from HD1.out.below hbw.drew)
      rw [← hwx]
      clear hwx
      go_still_tail 11, (by kernel_rfl)
      change wpList _ _ _ _ _ wx.drew
      go_wp2_with (at_mapUpdate; refine wpList_mapUpdate_L _ rfl _ _ _ 55 rfl 9 59 Try.underlying55 Try.underlying9 r _ rfl HDX.out.2 name (.agg #[.string (f.data.extract 0 n.toNat), .int .i64 n]) rfl rfl ?_; intro w4 hm4 hg4 hs4)
      go_ret
      have hput := HDX.out.put ⟨name, f.data.extract 0 n.toNat, n.toNat⟩ name _ rfl (by unfold fval; rw [Int.toNat_of_nonneg hb3]) hm4 hg4
      rw [HFS.out] at hput
      exact ⟨rfl, hput, ((HF1.out.trans (Fr.of_below (S := fun _ => False) hbw.drew) fun _ _ h => h.elim).grown hg4 fun b hb => .inr (.inr (Option.some.inj hb).symm))⟩
  · rw [if_neg he] at happ
    subst happ
    clear hth h hs' hE hf hfs
    go_enter Try.func26, Try.ntmps26
    go_wp2_with (go_at_call 25; refine (HTH.out _ (Below.refl _ _)).mono ?_; rintro e w1 ⟨rfl, hd1, hf1⟩; obtain ⟨d0, d1, d2, d3, d4, df⟩ := box5 hd1.1; have HD1 := Lib.hid hd1; have HF1 := Lib.hid hf1; clear df hd1 hf1)
    go_ret
    exact ⟨rfl, HD1.out.below ((Below.refl _ _).alloc (Nat.le_refl _) _), HF1.out.alloc _⟩

end Go.Proofs.Ytdogmcpmlglkfaa
