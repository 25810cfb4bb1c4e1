/- The sorted keys of a disk's files. -/
import Derived.Test.YtdogmcpmlglkfaaLib4
import Derived.Test.YtdogmcpmlglkfaaLays
import Derived.Test.YtdogmcpmlglkfaaSrt
namespace Go.Proofs.Ytdogmcpmlglkfaa
open Go.RowKit Go.Proofs.YtdogmcpmlglkfaaW.PrintWords

open Go.Shelf Go.Sort in
theorem sorts_any (m : Nat) : AnyZ.SortsIn Try.prog Try.sorted29_ren Fence.wide m :=
  ⟨fun blk off cap ss W hH hblk hsz => callsIn_wide.2 (AnyM.slices_Sort_string Try.sort32 blk off cap ss W hH hblk hsz),
   fun p cap W => callsIn_wide.2 (AnyM.slices_Sort_string_none Try.sort32 p cap W)⟩

theorem keys_any (mb : Option Nat) (W : World) : Calls Try.prog 30 #[.map mb] W fun e w' => e = .returned (.func (.func 33) #[] #[.pointer (some ⟨W.heap.size, 0, none⟩)]) ∧ w' = W.alloc (.cells #[.map mb] 55) :=
  (callsIn_wide (n := 5)).1 (AnyZ.keys_in Try.keys30 Fence.wide 5 trivial rfl mb W)

open Go.Shelf Go.Sort Go.Maps in
set_option maxHeartbeats 1000000 in
/-- The keys of a map, rising. -/
theorem sorted_any {w : World} {b : Nat} {m : List (ByteArray × Value)} (h : MapL w b m) (hk : ∀ p ∈ m, p.1.size ≤ maxLen) (hl : m.length ≤ 1000000) :
    Calls Try.prog 29 #[.func (.func 33) #[] #[.pointer (some ⟨w.heap.size, 0, none⟩)]] (w.alloc (.cells #[.map (some b)] 55)) fun e w' =>
      ∃ (v : Value) (r : List ByteArray), e = .returned v ∧ r.Perm (m.map (·.1)) ∧ Rising r ∧ w'.ownsRow (w.heap.size + 1) 9 1 v r.length (r.map Value.string) ∧ (v = .slice none 0 0 ↔ r = []) ∧
        Below (w.heap.size + 1) (w.alloc (.cells #[.map (some b)] 55)) w' := by
  obtain ⟨D0, hown, hperm, hsize⟩ := h.owns (P := Try.prog) Try.underlying9 hk (by unfold maxLen; omega)
  have hbl := hown.lt
  have hseq : SeqGives Fence.wide 2 Try.prog 33 #[.pointer (some ⟨w.heap.size, 0, none⟩)] encStr (fun ss => ss.Perm (strKeys D0)) (Maps.size D0) (w.alloc (.cells #[.map (some b)] 55)) :=
    AnyZ.keys_gives (ρ := Try.keys30_ren) { Try.keys30 with } Fence.wide _ trivial rfl (by omega) w.heap.size b m.length D0 _ (by simp) (by simp) (by
      obtain ⟨es, clock, hb, Ft, hs, hD⟩ := hown
      exact ⟨es, clock, (Below.heap_alloc _ _ b hbl).trans hb, Ft, hs, hD⟩)
  have hc := AnyZ.sorted_in Try.sorted29 Fence.wide 5 trivial trivial trivial trivial rfl (by omega) (sorts_any _) (enters_of Try.func32 (by kernel_rfl) rfl) 33 #[.pointer (some ⟨w.heap.size, 0, none⟩)] trivial (enters_of Try.func33 (by kernel_rfl) rfl) _ _ (by rw [hsize]; unfold maxLen; omega) (by rw [hsize]; omega) _ hseq
  refine ((callsIn_wide (n := 5)).1 hc).mono ?_
  rintro e w' ⟨v, ss, rfl, hS, hrow, hnil, hb⟩
  obtain ⟨r, h1, h2, h3, h4⟩ := sorted_keys hS hperm
  have hsz : (w.alloc (.cells #[.map (some b)] 55)).heap.size = w.heap.size + 1 := by simp
  refine ⟨v, r, rfl, h1, h2, ?_, ?_, hb.mono (by rw [hsz]; exact Nat.le_refl _)⟩
  · rw [hsz] at hrow
    rw [h4, ← h3]
    exact hrow
  · rw [hnil, ← List.length_eq_zero_iff, ← List.length_eq_zero_iff, h4]

end Go.Proofs.Ytdogmcpmlglkfaa
