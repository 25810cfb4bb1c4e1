/- Walks of the laws of chapter 13: the document's example. -/
import Derived.Test.YtaecjkffemmpcaaW7
namespace Go.Proofs.Ytaecjkffemmpcaa
open Go.RowKit Go.Proofs.YtaecjkffemmpcaaW.PrintWords

theorem asz (w : World) (o : Obj) : (w.alloc o).heap.size = w.heap.size + 1 := by simp

theorem new_bad (n : Int) (w : World) (h : n < 0 ∨ 300 < n) :
    Calls Try.prog 8 #[.int .i64 n] w fun e w' => e = .returned (.pointer none) ∧ w' = w := by
  rcases h with h | h
  · go_enter Try.func8, Try.ntmps8
    go_wp2
    go_ret
    exact ⟨rfl, rfl⟩
  · have h' : ¬ n < 0 := by omega
    go_enter Try.func8, Try.ntmps8
    go_wp2
    go_ret
    exact ⟨rfl, rfl⟩

theorem new_ok (n : Int) (w : World) (h0 : 0 ≤ n) (h : n ≤ 300) :
    Calls Try.prog 8 #[.int .i64 n] w fun e w' => e = .returned (.pointer (some ⟨w.heap.size, 0, none⟩)) ∧ w' = w.alloc (.cells #[.int .i64 n, .slice none 0 0] 54) := by
  go_enter Try.func8, Try.ntmps8
  go_wp2
  go_ret
  exact ⟨rfl, rfl⟩

theorem wrep_new (n : Int) (w : World) : WRep (w.alloc (.cells #[.int .i64 n, .slice none 0 0] 54)) (fun b => b = w.heap.size) w.heap.size n [] :=
  ⟨.slice none 0 0, [], heap_alloc_new w _, rfl, ⟨fun k hk => by simp [Value.ownBlock] at hk, ⟨rfl, .inl ⟨rfl, rfl⟩⟩, rfl, List.nodup_nil, fun i r x hi _ => by simp at hi⟩⟩

/-- A row of strings, laid as a block, is read. -/
theorem strs_read {w : World} {g : Nat} {t : TypeId} {c : List Value} {xs : List ByteArray} (h : w.heap[g]? = some (.cells c.toArray t)) (hc : c = xs.map Value.string) (hl : xs.length ≤ 1000000) : Kd.C Kd.string w (some ⟨g, 0, none⟩) xs.length xs := by
  refine ⟨rfl, by omega, fun _ => ⟨_, rfl, fun j p hj => ⟨[.string p], rfl, rfl, fun i u hi => ?_⟩⟩⟩
  have hi0 : i = 0 := by
    have := (List.getElem?_eq_some_iff.1 hi).1
    simp at this
    exact this
  subst hi0
  simp only [List.getElem?_cons_zero, Option.some.injEq] at hi
  subst hi
  have ha : (⟨g, 0, none⟩ : Addr).add (j * 1 + 0) = ⟨g, j, none⟩ := by unfold Addr.add; split <;> simp_all
  show w.cell? ((⟨g, 0, none⟩ : Addr).add (j * 1 + 0)) = _
  rw [ha]
  simp [World.cell?, h, hc, hj]

def exA : WItem := ⟨⟨#[120]⟩, ⟨#[116]⟩, [⟨#[97]⟩, ⟨#[98]⟩]⟩
def exB : WItem := ⟨⟨#[120]⟩, ⟨#[116]⟩, [⟨#[98]⟩]⟩
theorem ex1 : ([] ++ [⟨⟨#[120]⟩, ⟨#[116]⟩, addAll [⟨#[97]⟩, ⟨#[98]⟩]⟩] : List WItem) = [exA] := by kernel_rfl
theorem ex2 : [exA].filterMap (goes ⟨#[97]⟩) = [] := by kernel_rfl
theorem ex3 : [exA].filterMap (stay ⟨#[97]⟩) = [exB] := by kernel_rfl
theorem ex4 : [exB].filterMap (goes ⟨#[98]⟩) = [(⟨#[120]⟩, ⟨#[116]⟩)] := by kernel_rfl
theorem ex5 : [exB].filterMap (stay ⟨#[98]⟩) = [] := by kernel_rfl

set_option maxHeartbeats 1000000 in
theorem awake_any (w : World) :
    Calls Try.prog 7 #[] w fun e w' => e = .returned (.bool true) ∧ Below w.heap.size w w' := by
  go_enter Try.func7, Try.ntmps7
  go_wp2_with fail
  refine (new_ok 2 _ (by omega) (by omega)).mono ?_
  rintro e w1 ⟨rfl, rfl⟩
  have hr0 := Lib.hid ((wrep_new 2 w).move (w' := (w.alloc (.cells #[.int .i64 2, .slice none 0 0] 54)).alloc (.cells #[.string ⟨#[97]⟩, .string ⟨#[98]⟩] 9)) (fun b _ hb => Below.heap_alloc _ _ _ hb))
  have hs0 : Hid (Kd.C Kd.string ((w.alloc (.cells #[.int .i64 2, .slice none 0 0] 54)).alloc (.cells #[.string ⟨#[97]⟩, .string ⟨#[98]⟩] 9)) (some ⟨w.heap.size + 1, 0, none⟩) 2 [⟨#[97]⟩, ⟨#[98]⟩]) :=
    strs_read (xs := [⟨#[97]⟩, ⟨#[98]⟩]) (c := [.string ⟨#[97]⟩, .string ⟨#[98]⟩]) (by have := heap_alloc_new (w.alloc (.cells #[.int .i64 2, .slice none 0 0] 54)) (.cells #[.string ⟨#[97]⟩, .string ⟨#[98]⟩] 9); simpa using this) rfl (by simp)
  go_wp2_with fail
  refine (put_ok ⟨#[120]⟩ ⟨#[116]⟩ _ _ [⟨#[97]⟩, ⟨#[98]⟩] hr0.out (by simp) (by simp) (by simp) hs0.out (by decide) (by simp)).mono ?_
  rintro e w1 ⟨rfl, hr1, hf1⟩
  have hb1 : Below w.heap.size w w1 := (((Below.refl _ _).alloc (Nat.le_refl _) _).alloc (by simp) _).trans (hf1.to_below (by rw [asz, asz]; omega) (fun k hk e => by omega))
  rw [ex1] at hr1
  have HR1 : Hid (WRep w1 (fun b => w.heap.size ≤ b) w.heap.size 2 [exA]) := hr1.move_F (fun b hb => by rcases hb with e | ⟨h, _⟩
                                                                                                        · omega
                                                                                                        · rw [asz, asz] at h; omega)
  clear hr0 hs0 hf1 hr1
  go_wp2_with fail
  refine (come_any ⟨#[97]⟩ HR1.out (by simp)).mono ?_
  rintro e w2 ⟨vo, rfl, ho2, hr2, hf2⟩
  rw [ex2] at ho2
  rw [ex3] at hr2
  obtain ⟨A2, c2, rfl, _⟩ := own_slice ho2
  have hb2 : Below w.heap.size w w2 := hb1.trans (hf2.to_below hb1.size (fun k hk e => by omega))
  have HR2 : Hid (WRep w2 (fun b => w.heap.size ≤ b) w.heap.size 2 [exB]) := hr2.move_F (fun b hb => by have := hb1.size; rcases hb with h | ⟨h, _⟩ <;> omega)
  clear HR1 hr2 hf2 ho2
  go_wp2_with fail
  refine (come_any ⟨#[98]⟩ HR2.out (by simp)).mono ?_
  rintro e w3 ⟨vo, rfl, ho3, hr3, hf3⟩
  rw [ex4] at ho3
  rw [ex5] at hr3
  obtain ⟨g3, c3, rfl⟩ := own_pos ho3 (by simp)
  have hb3 : Below w.heap.size w w3 := hb2.trans (hf3.to_below hb2.size (fun k hk e => by omega))
  have HR3 : Hid (WRep w3 (fun b => w.heap.size ≤ b) w.heap.size 2 []) := hr3.move_F (fun b hb => by have := hb2.size; rcases hb with h | ⟨h, _⟩ <;> omega)
  have d0 : w3.cell? ⟨g3, 0, none⟩ = some (.string ⟨#[120]⟩) := by have := ho3.cells (g := g3) rfl 0 _ rfl; simpa [Addr.add] using this
  have d1 : w3.cell? ⟨g3, 1, none⟩ = some (.string ⟨#[116]⟩) := by have := ho3.cells (g := g3) rfl 1 _ rfl; simpa [Addr.add] using this
  clear HR2 hr3 hf3 ho3
  go_wp2_with (go_at_call 10; refine (len_any HR3.out).mono ?_; rintro e w4 ⟨rfl, rfl⟩)
  go_ret
  exact ⟨rfl, hb3⟩

end Go.Proofs.Ytaecjkffemmpcaa
