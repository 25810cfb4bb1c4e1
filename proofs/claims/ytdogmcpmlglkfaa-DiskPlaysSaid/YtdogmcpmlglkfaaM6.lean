/- DiskPlays: the plain laws: the law's model answers as the disk does. -/
import Derived.Test.YtdogmcpmlglkfaaM5
namespace Go.Proofs.Ytdogmcpmlglkfaa
open Go.RowKit Go.Proofs.YtdogmcpmlglkfaaW.PrintWords Go.Proofs.Ytdogmcpmlglkfaa.PRef

theorem Eqv.ok {n : Nat} {s m : DSt} (h : Eqv s m) (hk : DOk n s) : DOk n m := by
  refine ⟨by rw [h.left]; exact hk.left0, by rw [h.left]; exact hk.left1, by rw [h.room]; exact hk.room, by rw [used_perm h.fs, h.room]; exact hk.use, fun f hf => hk.file f (h.fs.mem_iff.1 hf), by rw [h.fs.length_eq]; exact hk.len, ?_⟩
  exact ((h.fs.map _).nodup_iff).2 hk.nodup

theorem Eqv.begins {s m : DSt} (h : Eqv s m) (nm : ByteArray) : (beginS m nm).1 = (beginS s nm).1 ∧ Eqv (beginS s nm).2 (beginS m nm).2 := by
  unfold beginS
  rw [h.off, h.armed, h.left]
  split
  · exact ⟨rfl, h⟩
  · split
    · exact ⟨rfl, ⟨h.room, rfl, rfl, rfl, h.fs, h.ris⟩⟩
    · exact ⟨rfl, ⟨h.room, rfl, rfl, rfl, h.fs, h.ris⟩⟩

theorem dget_isSome {a : List DFile} {nm : ByteArray} : (dget a nm).isSome = true ↔ nm ∈ a.map (·.name) := by
  unfold dget
  rw [List.find?_isSome]
  simp

theorem dget_perm {a b : List DFile} (h : a.Perm b) (hn : (b.map (·.name)).Nodup) (nm : ByteArray) : dget a nm = dget b nm := by
  have hna : (a.map (·.name)).Nodup := ((h.map _).nodup_iff).2 hn
  cases ha : dget a nm with
  | none =>
    cases hb : dget b nm with
    | none => rfl
    | some f =>
      have := dget_of hna (h.mem_iff.2 (dget_mem hb))
      rw [dget_name hb, ha] at this
      cases this
  | some f =>
    have := dget_of hn (h.mem_iff.1 (dget_mem ha))
    rw [dget_name ha] at this
    exact this.symm

theorem dput_perm {a b : List DFile} (h : a.Perm b) (f : DFile) : (dput a f).Perm (dput b f) := by
  have e : (dget a f.name).isSome = (dget b f.name).isSome := by
    rw [Bool.eq_iff_iff, dget_isSome, dget_isSome]
    exact (h.map _).mem_iff
  unfold dput
  rw [e]
  split
  · exact h.map _
  · exact h.append_right _

theorem putF_dput {fs : List DFile} (hn : (fs.map (·.name)).Nodup) {i : Nat} (hi : i < fs.length) (d : ByteArray) (n : Nat) : putF fs i d n = dput fs ⟨fs[i].name, d, n⟩ := by
  have e : fs.getD i zfile = fs[i] := by simp [List.getD_eq_getElem?_getD, List.getElem?_eq_getElem hi]
  unfold putF dput
  rw [e, if_pos (by rw [dget_isSome]; exact List.mem_map.2 ⟨_, List.getElem_mem hi, rfl⟩)]
  apply List.ext_getElem?
  intro j
  rw [List.getElem?_set, List.getElem?_map]
  by_cases hj : i = j
  · subst hj
    rw [if_pos rfl, if_pos hi, List.getElem?_eq_getElem hi, Option.map_some, if_pos rfl]
  · rw [if_neg hj]
    by_cases hjl : j < fs.length
    · rw [List.getElem?_eq_getElem hjl, Option.map_some, if_neg]
      intro en
      have hi' : (fs.map (·.name))[i]? = some fs[i].name := by rw [List.getElem?_map, List.getElem?_eq_getElem hi]; rfl
      have hj' : (fs.map (·.name))[j]? = some fs[i].name := by rw [List.getElem?_map, List.getElem?_eq_getElem hjl]; exact congrArg some en
      exact hj (nodup_idx hn hi' hj')
    · rw [List.getElem?_eq_none (by omega)]; rfl

theorem putF_names (fs : List DFile) (i : Nat) (d : ByteArray) (n : Nat) : (putF fs i d n).map (·.name) = fs.map (·.name) := by
  unfold putF
  apply List.ext_getElem?
  intro j
  rw [List.getElem?_map, List.getElem?_map, List.getElem?_set]
  by_cases hj : i = j
  · subst hj
    rw [if_pos rfl]
    by_cases hi : i < fs.length
    · rw [if_pos hi, List.getD_eq_getElem?_getD, List.getElem?_eq_getElem hi]; rfl
    · rw [if_neg hi, List.getElem?_eq_none (by omega)]
  · rw [if_neg hj]

/-! ### find -/
theorem fix_some {fs : List DFile} {nm : ByteArray} {i : Nat} (h : fix fs nm = i) : ∃ hi : i < fs.length, fs[i].name = nm := by
  unfold fix at h
  cases hc : fs.findIdx? (fun f => decide (f.name = nm)) with
  | none => rw [hc] at h; simp only at h; omega
  | some j =>
    rw [hc] at h
    simp only at h
    obtain rfl : j = i := by omega
    rw [List.findIdx?_eq_some_iff_getElem] at hc
    exact ⟨hc.1, by simpa using hc.2.1⟩

theorem fix_none {fs : List DFile} {nm : ByteArray} (h : fix fs nm < 0) : nm ∉ fs.map (·.name) := by
  unfold fix at h
  cases hc : fs.findIdx? (fun f => decide (f.name = nm)) with
  | some j => rw [hc] at h; simp only at h; omega
  | none =>
    rw [List.findIdx?_eq_none_iff] at hc
    intro hm
    obtain ⟨f, hf, e⟩ := List.mem_map.1 hm
    have := hc f hf
    simp [e] at this

theorem dget_no {fs : List DFile} {nm : ByteArray} (h : nm ∉ fs.map (·.name)) : dget fs nm = none := by
  cases hc : dget fs nm with
  | none => rfl
  | some f => exact absurd (dget_isSome.1 (by rw [hc]; rfl)) h

/-! ### insert -/
theorem insF_put (fs : List DFile) (nm d : ByteArray) (n : Nat) : putF (insF fs nm) (insAt fs nm) d n = fs.take (insAt fs nm) ++ ⟨nm, d, n⟩ :: fs.drop (insAt fs nm) := by
  have h := insAt_le fs nm
  unfold putF
  rw [insF_get]
  unfold insF
  rw [List.set_append_right _ _ (by rw [List.length_take]; omega), List.length_take, Nat.min_eq_left h, Nat.sub_self]
  rfl

theorem ins_perm (fs : List DFile) (k : Nat) (f : DFile) : (fs.take k ++ f :: fs.drop k).Perm (fs ++ [f]) := by
  refine List.perm_middle.trans ?_
  rw [List.take_append_drop]
  exact (List.perm_append_singleton f fs).symm

theorem le_of_not_ltS {a b : ByteArray} (h : ¬ ltS a b) : b.data.toList ≤ a.data.toList := by
  unfold ltS at h
  exact Std.not_lt.1 h

theorem ins_rising {fs : List DFile} (h : Rising (fs.map (·.name))) (nm d : ByteArray) (n : Nat) : Rising ((fs.take (insAt fs nm) ++ ⟨nm, d, n⟩ :: fs.drop (insAt fs nm)).map (·.name)) := by
  have hle := insAt_le fs nm
  have hp : fs.Pairwise fun a b => a.name.data.toList ≤ b.name.data.toList := by
    have := h
    unfold Rising at this
    rwa [List.pairwise_map] at this
  have hlow : ∀ a ∈ fs.take (insAt fs nm), ltS a.name nm := by
    intro a ha
    obtain ⟨j, hj, rfl⟩ := List.getElem_of_mem ha
    rw [List.length_take] at hj
    rw [List.getElem_take]
    have := List.not_of_lt_findIdx (p := fun f : DFile => !decide (ltS f.name nm)) (xs := fs) (i := j) (show j < insAt fs nm by omega)
    simpa using this
  have hhigh : ∀ b ∈ fs.drop (insAt fs nm), nm.data.toList ≤ b.name.data.toList := by
    intro b hb
    obtain ⟨j, hj, rfl⟩ := List.getElem_of_mem hb
    rw [List.length_drop] at hj
    have hlt : insAt fs nm < fs.length := by omega
    have h0 : nm.data.toList ≤ fs[insAt fs nm].name.data.toList := by
      have h9 : (!decide (ltS (fs[insAt fs nm]).name nm)) = true := List.findIdx_getElem (p := fun f : DFile => !decide (ltS f.name nm)) (xs := fs) (w := hlt)
      rw [Bool.not_eq_true'] at h9
      exact le_of_not_ltS (of_decide_eq_false h9)
    rw [List.getElem_drop]
    rcases Nat.eq_zero_or_pos j with rfl | hj0
    · exact h0
    · exact Std.le_trans h0 (List.pairwise_iff_getElem.1 hp _ _ hlt (by omega) (by omega))
  unfold Rising
  rw [List.pairwise_map]
  refine List.pairwise_append.2 ⟨hp.sublist (List.take_sublist _ _), List.pairwise_cons.2 ⟨hhigh, hp.sublist (List.drop_sublist _ _)⟩, ?_⟩
  intro a ha b hb
  have h1 := Std.le_of_lt (show a.name.data.toList < nm.data.toList from hlow a ha)
  rcases List.mem_cons.1 hb with rfl | hb
  · exact h1
  · exact Std.le_trans h1 (hhigh b hb)

/-! ### an operation -/
theorem Eqv.put {s m : DSt} (h : Eqv s m) (hn : (s.fs.map (·.name)).Nodup) {nm : ByteArray} {i : Nat} (hi : i < m.fs.length) (he : m.fs[i].name = nm) (d : ByteArray) (n : Nat) :
    Eqv { s with fs := dput s.fs ⟨nm, d, n⟩ } { m with fs := putF m.fs i d n } := by
  have hnm : (m.fs.map (·.name)).Nodup := ((h.fs.map _).nodup_iff).2 hn
  refine ⟨h.room, h.off, h.armed, h.left, ?_, ?_⟩
  · show (putF m.fs i d n).Perm (dput s.fs ⟨nm, d, n⟩)
    rw [putF_dput hnm hi, he]
    exact dput_perm h.fs _
  · show Rising ((putF m.fs i d n).map (·.name))
    rw [putF_names]
    exact h.ris

theorem Eqv.ins {s m : DSt} (h : Eqv s m) {nm : ByteArray} (hno : nm ∉ s.fs.map (·.name)) (d : ByteArray) (n : Nat) :
    Eqv { s with fs := dput s.fs ⟨nm, d, n⟩ } { m with fs := putF (insF m.fs nm) (insAt m.fs nm) d n } := by
  refine ⟨h.room, h.off, h.armed, h.left, ?_, ?_⟩
  · show (putF (insF m.fs nm) (insAt m.fs nm) d n).Perm (dput s.fs ⟨nm, d, n⟩)
    rw [insF_put]
    have : dput s.fs ⟨nm, d, n⟩ = s.fs ++ [⟨nm, d, n⟩] := by
      unfold dput
      rw [show dget s.fs (DFile.mk nm d n).name = none from dget_no hno]
      rfl
    rw [this]
    exact (ins_perm _ _ _).trans (h.fs.append_right _)
  · show Rising ((putF (insF m.fs nm) (insAt m.fs nm) d n).map (·.name))
    rw [insF_put]
    exact ins_rising h.ris _ _ _

theorem fix_cases (fs : List DFile) (nm : ByteArray) : (fix fs nm < 0 ∧ nm ∉ fs.map (·.name)) ∨ ∃ i : Nat, fix fs nm = i ∧ ∃ hi : i < fs.length, fs[i].name = nm := by
  rcases fix_range fs nm with h | ⟨i, h, _⟩
  · exact .inl ⟨by omega, fix_none (by omega)⟩
  · exact .inr ⟨i, h, fix_some h⟩

theorem eqv_mdo {n : Nat} {s m : DSt} (h : Eqv s m) (hk : DOk n s) (x : Act9) (hx : x.f0 = 0 ∨ x.f0 = 1 ∨ x.f0 = 2) : (doS s x).1.1 = ⟨#[]⟩ ∧ (mdo m x).1 = (doS s x).1.2 ∧ Eqv (doS s x).2 (mdo m x).2 := by
  obtain ⟨b1, b2⟩ := h.begins x.f1
  have hfs := beginS_fs s x.f1
  have hfm := beginS_fs m x.f1
  obtain ⟨E, hE⟩ : ∃ E, E = (beginS s x.f1).1 := ⟨_, rfl⟩
  obtain ⟨s1, hs1⟩ : ∃ s1, s1 = (beginS s x.f1).2 := ⟨_, rfl⟩
  obtain ⟨m1, hm1⟩ : ∃ m1, m1 = (beginS m x.f1).2 := ⟨_, rfl⟩
  rw [← hs1, ← hm1] at b2
  rw [← hE] at b1
  rw [← hs1] at hfs
  rw [← hm1] at hfm
  have hnd : (s1.fs.map (·.name)).Nodup := by rw [hfs]; exact hk.nodup
  have hnm : (m1.fs.map (·.name)).Nodup := ((b2.fs.map _).nodup_iff).2 hnd
  have hus : used s.fs = used m.fs := (used_perm h.fs).symm
  have hget : ∀ (i : Nat) (hi : i < m1.fs.length), m1.fs[i].name = x.f1 → dget s1.fs x.f1 = some m1.fs[i] := fun i hi he => by
    rw [← he]; exact dget_of hnd (b2.fs.mem_iff.1 (List.getElem_mem hi))
  have hgetD : ∀ (i : Nat) (hi : i < m1.fs.length), m1.fs.getD i zfile = m1.fs[i] := fun i hi => by simp [List.getD_eq_getElem?_getD, List.getElem?_eq_getElem hi]
  have hth : thereS s x.f1 = if E = 0 then (match dget s1.fs x.f1 with | none => (zfile, 10) | some f => (f, 0)) else (zfile, E) := by
    unfold thereS
    rw [← hE, hfs]
    rfl
  by_cases he : E = 0
  · have hmd : mdo m x = if x.f0 = 0 then (if m1.room - (used m1.fs : Int) < (x.f2.size : Int) then (6, m1)
        else if fix m1.fs x.f1 < 0 then (0, { m1 with fs := putF (insF m1.fs x.f1) (insAt m1.fs x.f1) (((insF m1.fs x.f1).getD (insAt m1.fs x.f1) zfile).data ++ x.f2) ((insF m1.fs x.f1).getD (insAt m1.fs x.f1) zfile).safe })
        else (0, { m1 with fs := putF m1.fs (fix m1.fs x.f1).toNat ((m1.fs.getD (fix m1.fs x.f1).toNat zfile).data ++ x.f2) (m1.fs.getD (fix m1.fs x.f1).toNat zfile).safe }))
        else if fix m1.fs x.f1 < 0 then (10, m1)
        else if x.f0 = 1 then (0, { m1 with fs := putF m1.fs (fix m1.fs x.f1).toNat (m1.fs.getD (fix m1.fs x.f1).toNat zfile).data (m1.fs.getD (fix m1.fs x.f1).toNat zfile).data.size })
        else if x.f3 < 0 ∨ ((m1.fs.getD (fix m1.fs x.f1).toNat zfile).data.size : Int) < x.f3 then (1, m1)
        else (0, { m1 with fs := putF m1.fs (fix m1.fs x.f1).toNat ((m1.fs.getD (fix m1.fs x.f1).toNat zfile).data.extract 0 x.f3.toNat) x.f3.toNat }) := by
      unfold mdo
      rw [b1, if_pos he, ← hm1, hfm]
    rw [hmd]
    clear hmd
    have hroom : m1.room = s1.room := b2.room
    by_cases k0 : x.f0 = 0
    · rw [if_pos k0]
      have hdo : doS s x = ((⟨#[]⟩, (appendS s x.f1 x.f2).1), (appendS s x.f1 x.f2).2) := by rw [doS, if_pos k0]
      have hap : appendS s x.f1 x.f2 = if s1.room - (used s1.fs : Int) < (x.f2.size : Int) then (6, s1) else (0, { s1 with fs := dput s1.fs ⟨x.f1, ((dget s1.fs x.f1).getD zfile).data ++ x.f2, ((dget s1.fs x.f1).getD zfile).safe⟩ }) := by
        unfold appendS
        rw [← hE, if_pos he, ← hs1, hfs]
      rw [hdo, hap, used_perm b2.fs, hroom]
      by_cases hbig : s1.room - (used s1.fs : Int) < (x.f2.size : Int)
      · rw [if_pos hbig, if_pos hbig]
        exact ⟨rfl, rfl, b2⟩
      · rw [if_neg hbig, if_neg hbig]
        rcases fix_cases m1.fs x.f1 with ⟨h1, h2⟩ | ⟨i, h1, hi, h2⟩
        · rw [if_pos h1, insF_get]
          have h3 : x.f1 ∉ s1.fs.map (·.name) := fun hm => h2 ((b2.fs.map _).mem_iff.2 hm)
          rw [dget_no h3]
          exact ⟨rfl, rfl, by have h := b2.ins h3 (zfile.data ++ x.f2) zfile.safe; rw [hroom] at h; exact h⟩
        · rw [h1, if_neg (by omega), Int.toNat_natCast, hgetD i hi, hget i hi h2]
          exact ⟨rfl, rfl, by have h := b2.put hnd hi h2 (m1.fs[i].data ++ x.f2) m1.fs[i].safe; rw [hroom] at h; exact h⟩
    · rw [if_neg k0]
      rcases fix_cases m1.fs x.f1 with ⟨h1, h2⟩ | ⟨i, h1, hi, h2⟩
      · rw [if_pos h1]
        have h3 : x.f1 ∉ s1.fs.map (·.name) := fun hm => h2 ((b2.fs.map _).mem_iff.2 hm)
        rw [if_pos he, dget_no h3] at hth
        by_cases k1 : x.f0 = 1
        · have hdo : doS s x = ((⟨#[]⟩, (syncS s x.f1).1), (syncS s x.f1).2) := by rw [doS, if_neg k0, if_pos k1]
          have hsy : syncS s x.f1 = (10, s1) := by unfold syncS; rw [hth, ← hs1]; rfl
          rw [hdo, hsy]
          exact ⟨rfl, rfl, b2⟩
        · have k2 : x.f0 = 2 := by omega
          have hdo : doS s x = ((⟨#[]⟩, (cutS s x.f1 x.f3).1), (cutS s x.f1 x.f3).2) := by rw [doS, if_neg k0, if_neg k1, if_pos k2]
          have hsy : cutS s x.f1 x.f3 = (10, s1) := by unfold cutS; rw [hth, ← hs1]; rfl
          rw [hdo, hsy]
          exact ⟨rfl, rfl, b2⟩
      · rw [h1, if_neg (by omega), Int.toNat_natCast, hgetD i hi]
        rw [if_pos he, hget i hi h2] at hth
        by_cases k1 : x.f0 = 1
        · rw [if_pos k1]
          have hdo : doS s x = ((⟨#[]⟩, (syncS s x.f1).1), (syncS s x.f1).2) := by rw [doS, if_neg k0, if_pos k1]
          have hsy : syncS s x.f1 = (0, { s1 with fs := dput s1.fs ⟨x.f1, m1.fs[i].data, m1.fs[i].data.size⟩ }) := by unfold syncS; rw [hth, ← hs1, ← hfs]; rfl
          rw [hdo, hsy]
          exact ⟨rfl, rfl, b2.put hnd hi h2 _ _⟩
        · rw [if_neg k1]
          have k2 : x.f0 = 2 := by omega
          have hdo : doS s x = ((⟨#[]⟩, (cutS s x.f1 x.f3).1), (cutS s x.f1 x.f3).2) := by rw [doS, if_neg k0, if_neg k1, if_pos k2]
          have hsy : cutS s x.f1 x.f3 = if x.f3 < 0 ∨ (m1.fs[i].data.size : Int) < x.f3 then (1, s1) else (0, { s1 with fs := dput s1.fs ⟨x.f1, m1.fs[i].data.extract 0 x.f3.toNat, x.f3.toNat⟩ }) := by unfold cutS; rw [hth, ← hs1, ← hfs, if_pos (show ((m1.fs[i], (0 : Int)) : DFile × Int).2 = 0 from rfl)]
          rw [hdo, hsy]
          split
          · exact ⟨rfl, rfl, b2⟩
          · exact ⟨rfl, rfl, b2.put hnd hi h2 _ _⟩
  · have hmd : mdo m x = (E, m1) := by
      unfold mdo
      rw [b1, if_neg he, ← hm1]
    rw [if_neg he] at hth
    rw [hmd]
    rcases hx with k0 | k1 | k2
    · have hdo : doS s x = ((⟨#[]⟩, (appendS s x.f1 x.f2).1), (appendS s x.f1 x.f2).2) := by rw [doS, if_pos k0]
      have hap : appendS s x.f1 x.f2 = (E, s1) := by unfold appendS; rw [← hE, if_neg he, ← hs1]
      rw [hdo, hap]
      exact ⟨rfl, rfl, b2⟩
    · have hdo : doS s x = ((⟨#[]⟩, (syncS s x.f1).1), (syncS s x.f1).2) := by rw [doS, if_neg (by omega), if_pos k1]
      have hsy : syncS s x.f1 = (E, s1) := by unfold syncS; rw [hth, ← hs1, if_neg (show ¬ ((zfile, E) : DFile × Int).2 = 0 from he)]
      rw [hdo, hsy]
      exact ⟨rfl, rfl, b2⟩
    · have hdo : doS s x = ((⟨#[]⟩, (cutS s x.f1 x.f3).1), (cutS s x.f1 x.f3).2) := by rw [doS, if_neg (by omega), if_neg (by omega), if_pos k2]
      have hsy : cutS s x.f1 x.f3 = (E, s1) := by unfold cutS; rw [hth, ← hs1, if_neg (show ¬ ((zfile, E) : DFile × Int).2 = 0 from he)]
      rw [hdo, hsy]
      exact ⟨rfl, rfl, b2⟩

/-! ### the crash -/
theorem mcr_map (keep : List Int) {fs : List DFile} (hn : (fs.map (·.name)).Nodup) : mcr keep fs fs.length = crashK keep (fs.map (·.name)) fs (fs.map (·.name)).length := by
  unfold mcr crashK
  apply List.ext_getElem?
  intro j
  rw [List.getElem?_mapIdx, List.getElem?_map]
  by_cases hj : j < fs.length
  · rw [List.getElem?_eq_getElem hj, Option.map_some, Option.map_some, if_pos hj]
    have hix : nameIx (fs.map (·.name)) fs[j].name = j := by
      have := nameIx_at hn (k := j) (by rw [List.length_map]; exact hj)
      rwa [List.getElem_map] at this
    rw [hix, List.length_map, if_pos hj]
  · rw [List.getElem?_eq_none (by omega)]; rfl

theorem Eqv.crash {s m : DSt} (h : Eqv s m) (hn : (s.fs.map (·.name)).Nodup) (keep : List Int) : Eqv (crashS s keep (snames s.fs)) (mcrash m keep) := by
  have hnm : (m.fs.map (·.name)).Nodup := ((h.fs.map _).nodup_iff).2 hn
  have hns : m.fs.map (·.name) = snames s.fs := snames_eq (h.fs.map _) h.ris
  refine ⟨h.room, rfl, rfl, h.left, ?_, ?_⟩
  · show (mcr keep m.fs m.fs.length).Perm (crashK keep (snames s.fs) s.fs (snames s.fs).length)
    rw [mcr_map keep hnm, hns]
    exact h.fs.map _
  · show Rising ((mcr keep m.fs m.fs.length).map (·.name))
    rw [mcr_map keep hnm, crashK_names]
    exact h.ris

theorem Eqv.arm {s m : DSt} (h : Eqv s m) (k : Int) : Eqv { s with armed := true, left := max k 0 } { m with armed := true, left := max k 0 } := ⟨h.room, h.off, rfl, rfl, h.fs, h.ris⟩

end Go.Proofs.Ytdogmcpmlglkfaa
