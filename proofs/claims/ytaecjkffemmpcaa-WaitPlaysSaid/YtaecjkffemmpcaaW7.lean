/- Walks of package wait: Missing. -/
import Derived.Test.YtaecjkffemmpcaaW6
namespace Go.Proofs.Ytaecjkffemmpcaa
open Go.RowKit Go.Proofs.YtaecjkffemmpcaaW.PrintWords

theorem keys_mput (m : List (ByteArray × Value)) (k : ByteArray) (v : Value) (s : ByteArray) : s ∈ (mput m k v).map (·.1) ↔ s ∈ m.map (·.1) ∨ s = k := by
  unfold mput
  split
  · rename_i h
    have hk := mhas_iff.1 h
    have e : (m.map (fun p => if p.1 = k then (k, v) else p)).map (·.1) = m.map (·.1) := by
      rw [List.map_map]
      refine List.map_congr_left fun p _ => ?_
      simp only [Function.comp_apply]
      split
      · rename_i e; rw [e]
      · rfl
    rw [e]
    exact ⟨.inl, fun h => h.elim (fun h => h) (fun e => e ▸ hk)⟩
  · simp

theorem length_mput (m : List (ByteArray × Value)) (k : ByteArray) (v : Value) : (mput m k v).length ≤ m.length + 1 := by
  unfold mput
  split <;> simp

theorem keys_fold (q : List (ByteArray × Value)) : ∀ (m : List (ByteArray × Value)) (s : ByteArray), s ∈ (q.foldl (fun m x => mput m x.1 x.2) m).map (·.1) ↔ s ∈ m.map (·.1) ∨ s ∈ q.map (·.1) := by
  induction q with
  | nil => intro m s; simp
  | cons x q ih =>
    intro m s
    rw [List.foldl_cons, ih, keys_mput]
    simp only [List.map_cons, List.mem_cons]
    constructor
    · rintro ((h | h) | h)
      · exact .inl h
      · exact .inr (.inl h)
      · exact .inr (.inr h)
    · rintro (h | h | h)
      · exact .inl (.inl h)
      · exact .inl (.inr h)
      · exact .inr h

theorem length_fold (q : List (ByteArray × Value)) : ∀ (m : List (ByteArray × Value)), (q.foldl (fun m x => mput m x.1 x.2) m).length ≤ m.length + q.length := by
  induction q with
  | nil => intro m; simp
  | cons x q ih =>
    intro m
    rw [List.foldl_cons]
    have := ih (mput m x.1 x.2)
    have := length_mput m x.1 x.2
    simp only [List.length_cons]
    omega

theorem keys_mset (l : List ByteArray) : (mset l).map (·.1) = l := by simp [mset, List.map_map, Function.comp_def]

theorem keys_mdel (m : List (ByteArray × Value)) (k s : ByteArray) : s ∈ (mdel m k).map (·.1) ↔ s ∈ m.map (·.1) ∧ s ≠ k := by
  simp only [mdel, List.mem_map, List.mem_filter, decide_eq_true_eq]
  constructor
  · rintro ⟨p, ⟨h1, h2⟩, rfl⟩; exact ⟨⟨p, h1, rfl⟩, h2⟩
  · rintro ⟨⟨p, h1, rfl⟩, h2⟩; exact ⟨p, ⟨h1, h2⟩, rfl⟩

theorem length_mdel (m : List (ByteArray × Value)) (k : ByteArray) : (mdel m k).length ≤ m.length := List.length_filter_le _ _

/-- For what somebody waits, and what doesn't wait itself. -/
def Lacks (l : List WItem) (s : ByteArray) : Prop := (∃ x ∈ l, s ∈ x.miss) ∧ ∀ x ∈ l, x.id ≠ s

theorem missing_nil (w : World) :
    Calls Try.prog 14 #[.pointer none] w fun e w' => e = .returned (.slice none 0 0) ∧ Below w.heap.size w w' := by
  go_enter Try.func14, Try.ntmps14
  go_wp2
  go_ret
  exact ⟨rfl, Below.refl _ _⟩

set_option maxHeartbeats 800000 in
theorem missing_any {w : World} {F : Nat → Prop} {p : Nat} {places : Int} {l : List WItem} (h : WRep w F p places l) (hm : l.length ≤ 1000) (hml : ∀ x ∈ l, x.miss.length ≤ 1000) (hms : ∀ x ∈ l, ∀ s ∈ x.miss, s.size ≤ maxLen) :
    Calls Try.prog 14 #[.pointer (some ⟨p, 0, none⟩)] w fun e w' => ∃ (v : Value) (r : List ByteArray), e = .returned v ∧ Rising r ∧ r.Nodup ∧ (∀ s, s ∈ r ↔ Lacks l s) ∧
      w'.ownsRow w.heap.size 9 1 v r.length (r.map Value.string) ∧ Below w.heap.size w w' := by
  have hp := h.lt
  obtain ⟨v, rs, h1, h2, h3, h4, h5, h6, h7⟩ := h
  obtain ⟨A, c, rfl, hlc, hrow⟩ := WRow.of_owns h4 h5
  obtain ⟨k0, k1, kf⟩ := WRep.cell0 h1
  have HROW := Lib.hid hrow
  have H7 := Lib.hid h7
  have HML := Lib.hid hml
  have HMS := Lib.hid hms
  clear h1 h2 h3 h4 h5 h6 h7 hrow k0 kf hml hms
  have hmm := @run_makeMap Try.prog
  go_enter Try.func14, Try.ntmps14
  go_wp2_with fail
  go_loopw [16] (fun i wr => ∃ (k : Nat) (q : List (ByteArray × Value)), k ≤ l.length ∧ i = .int .i64 k ∧ MapL wr w.heap.size q ∧ (∀ s, s ∈ q.map (·.1) ↔ ∃ x ∈ l.take k, s ∈ x.miss) ∧ q.length ≤ k * 1000 ∧ Below w.heap.size w wr) (fun i _ => l.length - (intOf i).toNat)
  case atStart =>
    exact ⟨0, [], Nat.zero_le _, rfl, MapL.made w, by simp, by simp, (Below.refl _ _).alloc (Nat.le_refl _) _⟩
  case round =>
    obtain ⟨k, q, hk, rfl, hmap, hkeys, hlen, hb⟩ := hrel
    have HM := Lib.hid hmap
    have HK := Lib.hid hkeys
    clear hmap hkeys
    have hql := HM.out.lt
    by_cases hlt : k < l.length
    · obtain ⟨g, r, rfl, e1, g1, g2, g3, g4⟩ := HROW.out k l[k] (List.getElem?_eq_getElem hlt)
      have j2 := (hb.cell (p := ⟨g, k * 3, none⟩) g1).trans g2
      have j3 := (hb.cell (p := ⟨g, k * 3 + 1, none⟩) g1).trans g3
      have j4 := (hb.cell (p := ⟨g, k * 3 + 2, none⟩) g1).trans g4
      have hmr := (H7.out k r l[k] e1 (List.getElem?_eq_getElem hlt)).2
      have hrl := hmr.lt
      have HR := Lib.hid (hmr.move (hb.block r hrl))
      clear g2 g3 g4 e1 hmr
      have hrne : w.heap.size ≠ r := by omega
      go_wp2_with (go_at_call 21; refine (copy_any (HM.out.alloc _) (HR.out.alloc _) hrne).mono ?_; rintro e w' ⟨rfl, q', hp', hm', hf'⟩)
      have hkeys' : ∀ s, s ∈ (q'.foldl (fun m x => mput m x.1 x.2) q).map (·.1) ↔ ∃ x, x ∈ l.take (k + 1) ∧ s ∈ x.miss := by
        intro s
        have e : (q'.map (·.1)).Perm l[k].miss := by have := hp'.map (·.1); rwa [keys_mset] at this
        rw [keys_fold, HK.out s, e.mem_iff, List.take_succ_eq_append_getElem hlt]
        constructor
        · rintro (⟨x, hx, hs⟩ | hs)
          · exact ⟨x, List.mem_append_left _ hx, hs⟩
          · exact ⟨l[k], List.mem_append_right _ (List.mem_singleton.2 rfl), hs⟩
        · rintro ⟨x, hx, hs⟩
          simp only [List.mem_append, List.mem_singleton] at hx
          rcases hx with hx | rfl
          · exact .inl ⟨x, hx, hs⟩
          · exact .inr hs
      have hlen' : (q'.foldl (fun m x => mput m x.1 x.2) q).length ≤ (k + 1) * 1000 := by
        have a1 := length_fold q' q
        have a2 := hp'.length_eq
        have a3 := HML.out l[k] (List.getElem_mem hlt)
        simp only [mset, List.length_map] at a2
        omega
      have hb2 : Below w.heap.size w w' := by
        have a1 := hf'.to_below (B := w.heap.size) (by simp; omega) (fun k hk e => by omega)
        exact (hb.alloc (by omega) _).trans a1
      exact ⟨⟨k + 1, _, by omega, by go_num, hm', hkeys', hlen', hb2⟩, by simp [intOf]; omega⟩
    · obtain rfl : k = l.length := by omega
      rw [List.take_length] at HK
      have c1 := (hb.cell (p := ⟨p, 1, none⟩) hp).trans k1
      go_wp2_with fail
      obtain ⟨wo, rfl⟩ : ∃ wo : World, wo = wr := ⟨_, rfl⟩
      go_loopw [30] (fun i w2 => ∃ (k : Nat) (q2 : List (ByteArray × Value)), k ≤ l.length ∧ i = .int .i64 k ∧ MapL w2 w.heap.size q2 ∧ (∀ s, s ∈ q2.map (·.1) ↔ s ∈ q.map (·.1) ∧ ∀ x ∈ l.take k, x.id ≠ s) ∧ q2.length ≤ q.length ∧ Below w.heap.size w w2) (fun i _ => l.length - (intOf i).toNat)
      case atStart => exact ⟨0, q, Nat.zero_le _, rfl, HM.out, by simp, Nat.le_refl _, hb⟩
      case round =>
        obtain ⟨k, q2, hk2, rfl, hmap2, hkeys2, hlen2, hb2⟩ := hrel
        have HM2 := Lib.hid hmap2
        have HK2 := Lib.hid hkeys2
        clear hmap2 hkeys2 c1
        have hql2 := HM2.out.lt
        by_cases hlt : k < l.length
        · obtain ⟨g, r, rfl, e1, g1, g2, g3, g4⟩ := HROW.out k l[k] (List.getElem?_eq_getElem hlt)
          have j2 := (hb2.cell (p := ⟨g, k * 3, none⟩) g1).trans g2
          have j3 := (hb2.cell (p := ⟨g, k * 3 + 1, none⟩) g1).trans g3
          have j4 := (hb2.cell (p := ⟨g, k * 3 + 2, none⟩) g1).trans g4
          clear g2 g3 g4 e1
          go_wp2_with (at_delete; refine wpList_delete_L _ rfl _ _ 55 9 rfl 4 Try.underlying55 Try.underlying9 w.heap.size q2 rfl (HM2.out.alloc _) l[k].id rfl ?_; intro w3 hm3 hg3 hs3)
          have hkeys3 : ∀ s, s ∈ (mdel q2 l[k].id).map (·.1) ↔ s ∈ q.map (·.1) ∧ ∀ x ∈ l.take (k + 1), x.id ≠ s := by
            intro s
            rw [keys_mdel, HK2.out s, List.take_succ_eq_append_getElem hlt]
            constructor
            · rintro ⟨⟨h1, h2⟩, h3⟩
              refine ⟨h1, fun x hx => ?_⟩
              rcases List.mem_append.1 hx with hx | hx
              · exact h2 x hx
              · rw [List.mem_singleton.1 hx]; exact fun e => h3 e.symm
            · rintro ⟨h1, h2⟩
              exact ⟨⟨h1, fun x hx => h2 x (List.mem_append_left _ hx)⟩, fun e => h2 l[k] (List.mem_append_right _ (List.mem_singleton.2 rfl)) e.symm⟩
          have hb3 : Below w.heap.size w w3 := (hb2.alloc (by omega) _).grown hg3 (by simp; omega) (fun k e => by cases e; exact Nat.le_refl _)
          exact ⟨⟨k + 1, _, by omega, by go_num, hm3, hkeys3, Nat.le_trans (length_mdel _ _) hlen2, hb3⟩, by simp [intOf]; omega⟩
        · obtain rfl : k = l.length := by omega
          rw [List.take_length] at HK2
          have hsz : ∀ x ∈ q2, x.1.size ≤ maxLen := by
            intro x hx
            have hx' : x.1 ∈ q2.map (·.1) := List.mem_map.2 ⟨x, hx, rfl⟩
            obtain ⟨y, hy, hs⟩ := (HK.out _).1 ((HK2.out _).1 hx').1
            exact HMS.out y hy _ hs
          have HSZ := Lib.hid hsz
          clear hsz
          go_wp2_with (first
            | (go_at_call 23; refine (keys_any _ _).mono ?_; rintro e w' ⟨rfl, rfl⟩)
            | (go_at_call 22; refine (sorted_any HM2.out HSZ.out (by omega)).mono ?_; rintro e w' ⟨v, r, rfl, hperm, hris, hown, hnil, hb4⟩))
          go_ret
          have hnd := HM2.out.nodup
          refine ⟨v, r, rfl, hris, hperm.nodup_iff.2 hnd, fun s => ?_, ownsRow_weaken hown (by omega), ?_⟩
          · rw [hperm.mem_iff, HK2.out s, HK.out s]
            rfl
          · exact (hb2.alloc (by omega) _).trans (hb4.mono (by omega))

end Go.Proofs.Ytaecjkffemmpcaa
