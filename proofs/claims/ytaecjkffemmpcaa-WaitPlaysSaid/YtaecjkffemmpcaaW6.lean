/- Walks of package wait: maps.Copy, the sorted keys of a map, Missing. -/
import Derived.Test.YtaecjkffemmpcaaW5
import Derived.Test.YtaecjkffemmpcaaLays
import Derived.Test.YtaecjkffemmpcaaSrt
namespace Go.Proofs.Ytaecjkffemmpcaa
open Go.RowKit Go.Proofs.YtaecjkffemmpcaaW.PrintWords

theorem RangeL.left_eq {w : World} {r b : Nat} {m left : List (ByteArray × Value)} (h : RangeL w r b m left) : w.rangeLeft b r = left.length := by
  obtain ⟨es, clock, since, seen, c0, hb, hs, he, hr, hx, hc, hk, hl⟩ := h
  have := congrArg List.length hl
  simp only [List.length_map, Array.length_toList] at this
  unfold World.rangeLeft
  rw [hb, hr]
  exact this

set_option maxHeartbeats 400000 in
theorem copy_any {w : World} {bd bs : Nat} {md ms : List (ByteArray × Value)} (hd : MapL w bd md) (hs : MapL w bs ms) (hne : bd ≠ bs) :
    Calls Try.prog 21 #[.map (some bd), .map (some bs)] w fun e w' => e = .returned (.tuple #[]) ∧
      ∃ q : List (ByteArray × Value), q.Perm ms ∧ MapL w' bd (q.foldl (fun m x => mput m x.1 x.2) md) ∧ Fr (fun b => b = bd) w w' := by
  have hdl := hd.lt
  have HD := Lib.hid hd
  have HS := Lib.hid hs
  clear hd hs
  go_enter Try.func21, Try.ntmps21
  go_wp2_with (at_range; refine wpList_range_L _ rfl _ 55 rfl 9 4 Try.underlying55 bs ms rfl HS.out ?_; intro w0 hr0 hf0 hs0)
  go_frame
  go_loopw [8] (fun _ wr => ∃ left done : List (ByteArray × Value), RangeL wr w.heap.size bs ms left ∧ (done ++ left).Perm ms ∧ MapL wr bd (done.foldl (fun m x => mput m x.1 x.2) md) ∧ Fr (fun b => b = bd) w wr) (fun _ wr => wr.rangeLeft bs w.heap.size)
  case atStart =>
    exact ⟨ms, [], hr0, List.Perm.refl _, HD.out.fr hf0 (fun h => h), hf0.mono fun _ _ h => h.elim⟩
  case round =>
    obtain ⟨left, done, hr, hp, hm, hf⟩ := hrel
    have HR := Lib.hid hr
    have HP := Lib.hid hp
    have HM := Lib.hid hm
    have HF := Lib.hid hf
    clear hr hp hm hf
    go_wp2_with (first
      | (at_next; refine wpList_next_L _ rfl _ rfl w.heap.size bs ms left rfl HR.out (fun hl0 => ?_) (fun i k0 v0 w1 hi0 hr1 hf1 hs1 hen => ?_))
      | (at_mapUpdate; refine wpList_mapUpdate_L _ rfl _ _ _ 55 rfl 9 4 Try.underlying55 Try.underlying9 bd _ rfl (HM.out.fr hf1 (by omega)) _ _ rfl rfl ?_; intro w2 hm2 hg2 hs2))
    · go_end0
      subst hl0
      exact ⟨rfl, done, by simpa using HP.out, HM.out, HF.out⟩
    · go_frame
      go_roundw
      case rel =>
        have hbs : w.heap.size ≠ bd := by omega
        have hfw2 : Fr (fun b => b = bd) w w2 := ((HF.out.trans hf1 (fun i hi e => by omega)).grown hg2 (fun k e => .inr (by cases e; rfl)))
        have hr2 : RangeL w2 w.heap.size bs ms (left.eraseIdx i) := hr1.fr (Fr.of_grown hg2) (fun e => hbs (Option.some.inj e)) (fun e => hne (Option.some.inj e).symm)
        refine ⟨left.eraseIdx i, done ++ [(k0, v0)], hr2, ?_, ?_, hfw2⟩
        · rw [List.append_assoc]
          exact ((eraseIdx_perm hi0).append_left done).trans HP.out
        · rw [List.foldl_append]
          exact hm2
      case measure =>
        have hbs : w.heap.size ≠ bd := by omega
        have hr2 : RangeL w2 w.heap.size bs ms (left.eraseIdx i) := hr1.fr (Fr.of_grown hg2) (fun e => hbs (Option.some.inj e)) (fun e => hne (Option.some.inj e).symm)
        have hil := (List.getElem?_eq_some_iff.1 hi0).1
        rw [hr2.left_eq, HR.out.left_eq, List.length_eraseIdx, if_pos hil]
        omega

open Go.Shelf Go.Sort in
theorem sorts_any (m : Nat) : AnyZ.SortsIn Try.prog Try.sorted22_ren Fence.wide m :=
  ⟨fun blk off cap ss W hH hblk hsz => callsIn_wide.2 (AnyM.slices_Sort_string Try.sort27 blk off cap ss W hH hblk hsz),
   fun p cap W => callsIn_wide.2 (AnyM.slices_Sort_string_none Try.sort27 p cap W)⟩

theorem keys_any (mb : Option Nat) (W : World) : Calls Try.prog 23 #[.map mb] W fun e w' => e = .returned (.func (.func 28) #[] #[.pointer (some ⟨W.heap.size, 0, none⟩)]) ∧ w' = W.alloc (.cells #[.map mb] 55) :=
  (callsIn_wide (n := 5)).1 (AnyZ.keys_in Try.keys23 Fence.wide 5 trivial rfl mb W)

open Go.Shelf Go.Sort Go.Maps in
set_option maxHeartbeats 1000000 in
/-- The keys of a map, rising. -/
theorem sorted_any {w : World} {b : Nat} {m : List (ByteArray × Value)} (h : MapL w b m) (hk : ∀ p ∈ m, p.1.size ≤ maxLen) (hl : m.length ≤ 1000000) :
    Calls Try.prog 22 #[.func (.func 28) #[] #[.pointer (some ⟨w.heap.size, 0, none⟩)]] (w.alloc (.cells #[.map (some b)] 55)) fun e w' =>
      ∃ (v : Value) (r : List ByteArray), e = .returned v ∧ r.Perm (m.map (·.1)) ∧ Rising r ∧ w'.ownsRow (w.heap.size + 1) 9 1 v r.length (r.map Value.string) ∧ (v = .slice none 0 0 ↔ r = []) ∧
        Below (w.heap.size + 1) (w.alloc (.cells #[.map (some b)] 55)) w' := by
  obtain ⟨D0, hown, hperm, hsize⟩ := h.owns (P := Try.prog) Try.underlying9 hk (by unfold maxLen; omega)
  have hbl := hown.lt
  have hseq : SeqGives Fence.wide 2 Try.prog 28 #[.pointer (some ⟨w.heap.size, 0, none⟩)] encStr (fun ss => ss.Perm (strKeys D0)) (Maps.size D0) (w.alloc (.cells #[.map (some b)] 55)) :=
    AnyZ.keys_gives (ρ := Try.keys23_ren) { Try.keys23 with } Fence.wide _ trivial rfl (by omega) w.heap.size b m.length D0 _ (by simp) (by simp) (by
      obtain ⟨es, clock, hb, Ft, hs, hD⟩ := hown
      exact ⟨es, clock, (Below.heap_alloc _ _ b hbl).trans hb, Ft, hs, hD⟩)
  have hc := AnyZ.sorted_in Try.sorted22 Fence.wide 5 trivial trivial trivial trivial rfl (by omega) (sorts_any _) (enters_of Try.func27 (by kernel_rfl) rfl) 28 #[.pointer (some ⟨w.heap.size, 0, none⟩)] trivial (enters_of Try.func28 (by kernel_rfl) rfl) _ _ (by rw [hsize]; unfold maxLen; omega) (by rw [hsize]; omega) _ hseq
  refine ((callsIn_wide (n := 5)).1 hc).mono ?_
  rintro e w' ⟨v, ss, rfl, hS, hrow, hnil, hb⟩
  obtain ⟨r, h1, h2, h3, h4⟩ := sorted_keys hS hperm
  have hsz : (w.alloc (.cells #[.map (some b)] 55)).heap.size = w.heap.size + 1 := by simp
  refine ⟨v, r, rfl, h1, h2, ?_, ?_, hb.mono (by rw [hsz]; exact Nat.le_refl _)⟩
  · rw [hsz] at hrow
    rw [h4, ← h3]
    exact hrow
  · rw [hnil, ← List.length_eq_zero_iff, ← List.length_eq_zero_iff, h4]

end Go.Proofs.Ytaecjkffemmpcaa
