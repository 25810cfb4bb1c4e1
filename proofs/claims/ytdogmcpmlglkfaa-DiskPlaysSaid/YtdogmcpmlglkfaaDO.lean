/- palaverlaw09.do: an act, done to a disk; what it leaves, and the bounds that stay. -/
import Derived.Test.YtdogmcpmlglkfaaDD
namespace Go.Proofs.Ytdogmcpmlglkfaa
open Go.RowKit Go.Proofs.YtdogmcpmlglkfaaW.PrintWords Go.Proofs.Ytdogmcpmlglkfaa.PRef

/-! ### the names, rising -/
def lsortB (l : List ByteArray) : List ByteArray := l.mergeSort (fun a b => decide (a.data.toList ≤ b.data.toList))
def snames (fs : List DFile) : List ByteArray := lsortB (fs.map (·.name))

theorem lsortB_perm (l : List ByteArray) : (lsortB l).Perm l := List.mergeSort_perm _ _

theorem leD_trans (a b c : ByteArray) (h : decide (a.data.toList ≤ b.data.toList) = true) (k : decide (b.data.toList ≤ c.data.toList) = true) : decide (a.data.toList ≤ c.data.toList) = true := by
  simp only [decide_eq_true_eq] at *
  exact Std.le_trans h k

theorem leD_total (a b : ByteArray) : (decide (a.data.toList ≤ b.data.toList) || decide (b.data.toList ≤ a.data.toList)) = true := by
  simp only [Bool.or_eq_true, decide_eq_true_eq]
  exact Std.le_total

theorem lsortB_rising (l : List ByteArray) : Rising (lsortB l) := by
  unfold Rising lsortB
  exact (List.pairwise_mergeSort leD_trans leD_total l).imp fun {a b} h => by simpa using h

theorem rising_eq {a b : List ByteArray} (ha : Rising a) (hb : Rising b) (h : a.Perm b) : a = b :=
  List.Perm.eq_of_pairwise (le := fun x y : ByteArray => x.data.toList ≤ y.data.toList) (fun x y _ _ h1 h2 => WideShapes.bytes_inj (Std.le_antisymm h1 h2)) ha hb h

theorem snames_eq {ns : List ByteArray} {fs : List DFile} (h : ns.Perm (fs.map (·.name))) (hr : Rising ns) : ns = snames fs :=
  rising_eq hr (lsortB_rising _) (h.trans (lsortB_perm _).symm)

/-! ### the bounds -/
structure DOk (n : Nat) (s : DSt) : Prop where
  left0 : 0 ≤ s.left
  left1 : s.left ≤ 9223372036854775807
  room : s.room ≤ 4194304
  use : (used s.fs : Int) ≤ s.room
  file : ∀ f ∈ s.fs, f.name.size ≤ 32 ∧ f.safe ≤ f.data.size
  len : s.fs.length ≤ n
  nodup : (s.fs.map (·.name)).Nodup

theorem DOk.crash {n : Nat} {s : DSt} (h : DOk n s) : ∀ f ∈ s.fs, f.name.size ≤ maxLen ∧ f.safe ≤ f.data.size ∧ f.data.size ≤ 4194304 := fun f hf => by
  have h1 := h.file f hf
  have h2 := used_mem hf
  have h3 := h.use
  have h4 := h.room
  exact ⟨Nat.le_trans h1.1 (of_decide_eq_true rfl), h1.2, by omega⟩

theorem beginS_cases (s : DSt) (name : ByteArray) : ((beginS s name).2 = s ∨ (beginS s name).2 = { s with off := true } ∨ (beginS s name).2 = { s with left := max (s.left - 1) 0 }) := by
  unfold beginS
  split
  · exact .inl rfl
  · split
    · exact .inr (.inl rfl)
    · exact .inr (.inr rfl)

theorem DOk.begins {n : Nat} {s : DSt} (h : DOk n s) (name : ByteArray) : DOk n (beginS s name).2 := by
  obtain ⟨a, b, c, d, e, f, g⟩ := h
  rcases beginS_cases s name with hc | hc | hc <;> rw [hc]
  · exact ⟨a, b, c, d, e, f, g⟩
  · exact ⟨a, b, c, d, e, f, g⟩
  · exact ⟨by show 0 ≤ max (s.left - 1) 0; omega, by show max (s.left - 1) 0 ≤ _; omega, c, d, e, f, g⟩

theorem begin_ok {s : DSt} {name : ByteArray} (h : (beginS s name).1 = 0) : name.size ≤ 32 := by
  unfold beginS at h
  split at h
  · cases h
  · split at h
    · cases h
    · simp only at h
      split at h
      · cases h
      · rename_i hb
        simp only [badName, decide_eq_true_eq] at hb
        exact Nat.le_of_not_lt fun h => hb (.inr h)

theorem dput_names (fs : List DFile) (f : DFile) : (dput fs f).map (·.name) = if (dget fs f.name).isSome then fs.map (·.name) else fs.map (·.name) ++ [f.name] := by
  unfold dput
  split
  · rw [List.map_map]
    refine List.map_congr_left fun g _ => ?_
    simp only [Function.comp_def]
    split
    · rename_i h; exact h.symm
    · rfl
  · rw [List.map_append]; rfl

theorem dget_none {fs : List DFile} {name : ByteArray} (h : dget fs name = none) : name ∉ fs.map (·.name) := by
  unfold dget at h
  rw [List.find?_eq_none] at h
  intro hm
  obtain ⟨f, hf, e⟩ := List.mem_map.1 hm
  exact h f hf (decide_eq_true e)

theorem dput_mem {fs : List DFile} {f g : DFile} (h : g ∈ dput fs f) : g = f ∨ g ∈ fs := by
  unfold dput at h
  split at h
  · obtain ⟨x, hx, e⟩ := List.mem_map.1 h
    split at e
    · exact .inl e.symm
    · exact .inr (e ▸ hx)
  · rcases List.mem_append.1 h with h | h
    · exact .inr h
    · exact .inl (List.mem_singleton.1 h)

theorem map_id_of {fs : List DFile} {f : DFile} (h : f.name ∉ fs.map (·.name)) : fs.map (fun g => if g.name = f.name then f else g) = fs := by
  conv => rhs; rw [← List.map_id fs]
  refine List.map_congr_left fun g hg => ?_
  rw [if_neg (fun (e : g.name = f.name) => h (List.mem_map.2 ⟨g, hg, e⟩))]
  rfl

theorem used_put (fs : List DFile) (hn : (fs.map (·.name)).Nodup) (f : DFile) : used (dput fs f) + ((dget fs f.name).getD zfile).data.size = used fs + f.data.size := by
  unfold dput
  cases hg : dget fs f.name with
  | none =>
    rw [if_neg (show ¬ (none : Option DFile).isSome = true by decide)]
    show used (fs ++ [f]) + 0 = _
    unfold used
    simp
  | some g =>
    rw [if_pos (show (some g).isSome = true from rfl)]
    show used _ + g.data.size = _
    unfold dget at hg
    unfold used
    induction fs with
    | nil => cases hg
    | cons x fs ih =>
      simp only [List.map_cons, List.nodup_cons] at hn
      simp only [List.map_cons, List.sum_cons]
      rw [List.find?_cons] at hg
      by_cases hx : x.name = f.name
      · rw [decide_eq_true hx] at hg
        simp only [Option.some.injEq] at hg
        subst hg
        rw [if_pos hx]
        rw [map_id_of (f := f) (hx ▸ hn.1)]
        omega
      · rw [decide_eq_false hx] at hg
        have := ih hn.2 hg
        rw [if_neg hx]
        omega

theorem DOk.put {n : Nat} {s : DSt} (h : DOk n s) (f : DFile) (h1 : f.name.size ≤ 32) (h2 : f.safe ≤ f.data.size) (h3 : (used s.fs : Int) + f.data.size ≤ s.room + ((dget s.fs f.name).getD zfile).data.size) : DOk (n + 1) { s with fs := dput s.fs f } := by
  refine ⟨h.left0, h.left1, h.room, ?_, ?_, ?_, ?_⟩
  · have := used_put s.fs h.nodup f
    show (used (dput s.fs f) : Int) ≤ s.room
    omega
  · intro g hg
    rcases dput_mem hg with rfl | hg
    · exact ⟨h1, h2⟩
    · exact h.file g hg
  · show (dput s.fs f).length ≤ n + 1
    have := h.len
    unfold dput
    split
    · rw [List.length_map]; omega
    · rw [List.length_append]; simp; omega
  · show ((dput s.fs f).map (·.name)).Nodup
    rw [dput_names]
    cases hg : dget s.fs f.name with
    | some g => exact h.nodup
    | none =>
      refine List.nodup_append.2 ⟨h.nodup, by simp, fun a ha b hb e => ?_⟩
      rw [List.mem_singleton] at hb
      exact dget_none hg (by rw [← hb, ← e]; exact ha)

theorem DOk.mono {n m : Nat} {s : DSt} (h : DOk n s) (hm : n ≤ m) : DOk m s := ⟨h.left0, h.left1, h.room, h.use, h.file, Nat.le_trans h.len hm, h.nodup⟩

theorem DOk.append {n : Nat} {s : DSt} (h : DOk n s) (name data : ByteArray) : DOk (n + 1) (appendS s name data).2 := by
  have hb := h.begins name
  unfold appendS
  split
  · rename_i hz
    split
    · exact hb.mono (Nat.le_succ _)
    · rename_i hr
      have hfs := beginS_fs s name
      obtain ⟨s', hs'⟩ : ∃ s', s' = (beginS s name).2 := ⟨_, rfl⟩
      rw [← hs'] at hb hr hfs ⊢
      have hk : ((dget s.fs name).getD zfile).safe ≤ ((dget s.fs name).getD zfile).data.size := by
        cases hc : dget s.fs name with
        | none => exact Nat.zero_le _
        | some f => exact (h.file f (dget_mem hc)).2
      rw [← hfs] at hr hk ⊢
      refine hb.put ⟨name, _, _⟩ (begin_ok hz) ?_ ?_
      · show ((dget s'.fs name).getD zfile).safe ≤ (((dget s'.fs name).getD zfile).data ++ data).size
        rw [ByteArray.size_append]; omega
      · show (used s'.fs : Int) + ((((dget s'.fs name).getD zfile).data ++ data).size : Int) ≤ s'.room + (((dget s'.fs name).getD zfile).data.size : Int)
        rw [ByteArray.size_append]
        omega
  · exact hb.mono (Nat.le_succ _)

theorem there_get {s : DSt} {name : ByteArray} (h : (thereS s name).2 = 0) : dget (beginS s name).2.fs name = some (thereS s name).1 ∧ name.size ≤ 32 := by
  unfold thereS at h ⊢
  rw [beginS_fs]
  split at h
  · rename_i hz
    rw [if_pos hz]
    refine ⟨?_, begin_ok hz⟩
    split at h
    · cases h
    · rename_i f hf
      rw [hf]
  · rename_i hz
    exact absurd h hz

theorem DOk.sync {n : Nat} {s : DSt} (h : DOk n s) (name : ByteArray) : DOk (n + 1) (syncS s name).2 := by
  have hb := h.begins name
  unfold syncS
  split
  · rename_i hz
    obtain ⟨hg, hn⟩ := there_get hz
    have hfs := beginS_fs s name
    obtain ⟨s', hs'⟩ : ∃ s', s' = (beginS s name).2 := ⟨_, rfl⟩
    obtain ⟨f, hf⟩ : ∃ f, f = (thereS s name).1 := ⟨_, rfl⟩
    rw [← hs'] at hb hg hfs ⊢
    rw [← hf] at hg ⊢
    rw [← hfs]
    refine hb.put ⟨name, _, _⟩ hn (Nat.le_refl _) ?_
    show (used s'.fs : Int) + (f.data.size : Int) ≤ s'.room + (((dget s'.fs name).getD zfile).data.size : Int)
    rw [hg]
    have := hb.use
    show (used s'.fs : Int) + (f.data.size : Int) ≤ s'.room + (f.data.size : Int)
    omega
  · exact hb.mono (Nat.le_succ _)

theorem DOk.cut {n : Nat} {s : DSt} (h : DOk n s) (name : ByteArray) (k : Int) : DOk (n + 1) (cutS s name k).2 := by
  have hb := h.begins name
  unfold cutS
  split
  · rename_i hz
    split
    · exact hb.mono (Nat.le_succ _)
    · rename_i hk
      obtain ⟨hg, hn⟩ := there_get hz
      have hfs := beginS_fs s name
      obtain ⟨s', hs'⟩ : ∃ s', s' = (beginS s name).2 := ⟨_, rfl⟩
      obtain ⟨f, hf⟩ : ∃ f, f = (thereS s name).1 := ⟨_, rfl⟩
      rw [← hs'] at hb hg hfs ⊢
      rw [← hf] at hg hk ⊢
      rw [← hfs]
      refine hb.put ⟨name, _, _⟩ hn ?_ ?_
      · show k.toNat ≤ (f.data.extract 0 k.toNat).size
        rw [ByteArray.size_extract]
        omega
      · show (used s'.fs : Int) + ((f.data.extract 0 k.toNat).size : Int) ≤ s'.room + (((dget s'.fs name).getD zfile).data.size : Int)
        rw [hg, ByteArray.size_extract]
        have := hb.use
        show (used s'.fs : Int) + _ ≤ s'.room + (f.data.size : Int)
        omega
  · exact hb.mono (Nat.le_succ _)

theorem crash1_bound (keep : List Int) (i : Nat) (f : DFile) (h : f.safe ≤ f.data.size) : (crash1 keep i f).data.size = crashN keep i f ∧ crashN keep i f ≤ f.data.size := by
  have := (crashN_le keep i f h).2
  refine ⟨?_, this⟩
  show (f.data.extract 0 (crashN keep i f)).size = _
  rw [ByteArray.size_extract]
  omega

theorem used_map_le {fs : List DFile} {g : DFile → DFile} (h : ∀ f ∈ fs, (g f).data.size ≤ f.data.size) : used (fs.map g) ≤ used fs := by
  unfold used
  induction fs with
  | nil => exact Nat.le_refl _
  | cons f fs ih =>
    simp only [List.map_cons, List.sum_cons]
    have := h f (List.mem_cons_self ..)
    have := ih fun x hx => h x (List.mem_cons_of_mem _ hx)
    omega

theorem DOk.crashed {n : Nat} {s : DSt} (h : DOk n s) (keep : List Int) (ns : List ByteArray) : DOk n (crashS s keep ns) := by
  have hb : ∀ f ∈ s.fs, (if nameIx ns f.name < ns.length then crash1 keep (nameIx ns f.name) f else f).data.size ≤ f.data.size ∧ (if nameIx ns f.name < ns.length then crash1 keep (nameIx ns f.name) f else f).safe ≤ (if nameIx ns f.name < ns.length then crash1 keep (nameIx ns f.name) f else f).data.size := fun f hf => by
    split
    · have := crash1_bound keep (nameIx ns f.name) f (h.file f hf).2
      exact ⟨by omega, by rw [this.1]; exact Nat.le_refl _⟩
    · exact ⟨Nat.le_refl _, (h.file f hf).2⟩
  refine ⟨h.left0, h.left1, h.room, ?_, ?_, ?_, ?_⟩
  · have := used_map_le fun f hf => (hb f hf).1
    have := h.use
    show (used (crashK keep ns s.fs ns.length) : Int) ≤ s.room
    unfold crashK
    omega
  · intro g hg
    obtain ⟨f, hf, rfl⟩ := List.mem_map.1 (show g ∈ s.fs.map _ from hg)
    refine ⟨?_, (hb f hf).2⟩
    have := (h.file f hf).1
    split
    · exact this
    · exact this
  · show (crashK keep ns s.fs ns.length).length ≤ n
    unfold crashK
    rw [List.length_map]
    exact h.len
  · show ((crashK keep ns s.fs ns.length).map (·.name)).Nodup
    rw [crashK_names]
    exact h.nodup

/-! ### an act -/
def doS (s : DSt) (x : Act9) : (ByteArray × Int) × DSt :=
  if x.f0 = 0 then ((⟨#[]⟩, (appendS s x.f1 x.f2).1), (appendS s x.f1 x.f2).2)
  else if x.f0 = 1 then ((⟨#[]⟩, (syncS s x.f1).1), (syncS s x.f1).2)
  else if x.f0 = 2 then ((⟨#[]⟩, (cutS s x.f1 x.f3).1), (cutS s x.f1 x.f3).2)
  else if x.f0 = 3 then (readS s x.f1, s)
  else if x.f0 = 4 then ((⟨#[]⟩, 0), { s with armed := true, left := max x.f3 0 })
  else ((⟨#[]⟩, 0), crashS s x.f4 (snames s.fs))

theorem DOk.done {n : Nat} {s : DSt} (h : DOk n s) (x : Act9) (h3 : x.f3 ≤ 9223372036854775807) : DOk (n + 1) (doS s x).2 := by
  unfold doS
  split
  · exact h.append _ _
  · split
    · exact h.sync _
    · split
      · exact h.cut _ _
      · split
        · exact h.mono (Nat.le_succ _)
        · split
          · exact DOk.mono (n := n) ⟨by show 0 ≤ max x.f3 0; omega, by show max x.f3 0 ≤ _; omega, h.room, h.use, h.file, h.len, h.nodup⟩ (Nat.le_succ _)
          · exact (h.crashed _ _).mono (Nat.le_succ _)

theorem five_below (w : World) (v : Array Value) (t : TypeId) : Below w.heap.size w (w.alloc (.cells v t)) := (Below.refl _ _).alloc (Nat.le_refl _) _

theorem keep_lift {w w' : World} {A : Option Addr} {keep : List Int} (h : Kd.C (Kd.int .i64) w A keep.length keep) (hb : Below w.heap.size w w') : Kd.C (Kd.int .i64) w' A keep.length keep := Kd.C_below h hb

set_option maxHeartbeats 2000000 in
theorem do_any {w : World} {p r n : Nat} {s : DSt} (x : Act9) (A : Option Addr) (c : Nat) (h : DRep w p r s) (hok : DOk n s) (hn : n ≤ 1000000) (hc : x.f4.length ≤ c) (hr : Kd.C (Kd.int .i64) w A x.f4.length x.f4) (hA : ∀ ad, A = some ad → 0 < x.f4.length → ad.block ≠ p ∧ ad.block ≠ r) :
    Calls Try.prog 18 #[.pointer (some ⟨p, 0, none⟩), .agg #[.int .i64 x.f0, .string x.f1, .string x.f2, .int .i64 x.f3, .slice A x.f4.length c]] w fun e w' =>
      e = .returned (.tuple #[.string (doS s x).1.1, .int .i64 (doS s x).1.2]) ∧ DRep w' p r (doS s x).2 ∧ DFr p r w w' := by
  have H := fun (w' : World) (hb : Below w.heap.size w w') => h.below hb
  have HR := fun (w' : World) (hb : Below w.heap.size w w') => keep_lift hr hb
  have HH := Lib.hid H
  have HRR := Lib.hid HR
  have HA := Lib.hid hA
  have HC := Lib.hid hok.crash
  have HFB := Lib.hid (five_below w)
  obtain ⟨hl0, hl1, hrm, hus, _, hln, _⟩ := hok
  have hln' : s.fs.length ≤ 1000000 := Nat.le_trans hln hn
  clear H HR h hr hA
  by_cases h0 : x.f0 = 0
  · rw [show doS s x = ((⟨#[]⟩, (appendS s x.f1 x.f2).1), (appendS s x.f1 x.f2).2) by rw [doS, if_pos h0]]
    go_enter Try.func18, Try.ntmps18
    go_wp2_with (go_at_call 10; refine (append_any x.f1 x.f2 (HH.out _ (HFB.out _ _)) hl0 hl1 hrm hus).mono ?_; rintro e w1 ⟨rfl, hd1, hf1⟩)
    go_ret2
    exact ⟨rfl, hd1, hf1.of_alloc⟩
  · skip
    by_cases h1 : x.f0 = 1
    · rw [show doS s x = ((⟨#[]⟩, (syncS s x.f1).1), (syncS s x.f1).2) by rw [doS, if_neg h0, if_pos h1]]
      go_enter Try.func18, Try.ntmps18
      go_wp2_with (go_at_call 11; refine (sync_any x.f1 (HH.out _ (HFB.out _ _)) hl0 hl1).mono ?_; rintro e w1 ⟨rfl, hd1, hf1⟩)
      go_ret2
      exact ⟨rfl, hd1, hf1.of_alloc⟩
    · skip
      by_cases h2 : x.f0 = 2
      · rw [show doS s x = ((⟨#[]⟩, (cutS s x.f1 x.f3).1), (cutS s x.f1 x.f3).2) by rw [doS, if_neg h0, if_neg h1, if_pos h2]]
        go_enter Try.func18, Try.ntmps18
        go_wp2_with (go_at_call 26; refine (cut_any x.f1 x.f3 (HH.out _ (HFB.out _ _)) hl0 hl1).mono ?_; rintro e w1 ⟨rfl, hd1, hf1⟩)
        go_ret2
        exact ⟨rfl, hd1, hf1.of_alloc⟩
      · skip
        by_cases h3 : x.f0 = 3
        · rw [show doS s x = (readS s x.f1, s) by rw [doS, if_neg h0, if_neg h1, if_neg h2, if_pos h3]]
          go_enter Try.func18, Try.ntmps18
          go_wp2_with (go_at_call 13; refine (read_any x.f1 (HH.out _ (HFB.out _ _))).mono ?_; rintro e w1 ⟨rfl, hb1⟩)
          go_ret2
          exact ⟨rfl, (HH.out _ (HFB.out _ _)).below hb1, Fr.of_below ((HFB.out _ _).trans (hb1.mono (HFB.out _ _).size))⟩
        · skip
          by_cases h4 : x.f0 = 4
          · rw [show doS s x = ((⟨#[]⟩, 0), { s with armed := true, left := max x.f3 0 }) by rw [doS, if_neg h0, if_neg h1, if_neg h2, if_neg h3, if_pos h4]]
            go_enter Try.func18, Try.ntmps18
            go_wp2_with (go_at_call 14; refine (arm_any x.f3 (HH.out _ (HFB.out _ _))).mono ?_; rintro e w1 ⟨rfl, hd1, hf1⟩)
            go_ret2
            exact ⟨rfl, hd1, hf1.of_alloc⟩
          · skip
            rw [show doS s x = ((⟨#[]⟩, 0), crashS s x.f4 (snames s.fs)) by rw [doS, if_neg h0, if_neg h1, if_neg h2, if_neg h3, if_neg h4]]
            go_enter Try.func18, Try.ntmps18
            go_wp2_with (go_at_call 12; refine (crash_any x.f4 (HH.out _ (HFB.out _ _)) HC.out hln' hc (HRR.out _ (HFB.out _ _)) HA.out).mono ?_; rintro e w1 ⟨ns, rfl, hp, hris, hnd, hd1, hf1⟩)
            go_ret2
            rw [snames_eq hp hris] at hd1
            exact ⟨rfl, hd1, hf1.of_alloc⟩

end Go.Proofs.Ytdogmcpmlglkfaa
