/- WaitNone: of no room nothing comes: the walk of the law. -/
import Derived.Test.YtaecjkffemmpcaaW8
import Derived.Test.YtaecjkffemmpcaaPur2
namespace Go.Proofs.Ytaecjkffemmpcaa
open Go.RowKit Go.Proofs.YtaecjkffemmpcaaW.PrintWords Go.Proofs.Ytaecjkffemmpcaa.PRef

theorem act_read {w : World} {g : Nat} {x : ActS} {A : Option Addr} {c : Nat} {t : TypeId} (h : w.heap[g]? = some (.cells #[.int .i64 x.f0, .string x.f1, .string x.f2, .slice A x.f3.length c] t)) (hc : x.f3.length ≤ c) (hr : Kd.C Kd.string w A x.f3.length x.f3) :
    Kd.C k32 w (some ⟨g, 0, none⟩) 1 [x] := by
  refine ⟨rfl, by omega, fun _ => ⟨_, rfl, fun j p hj => ?_⟩⟩
  have hj0 : j = 0 := by
    have := (List.getElem?_eq_some_iff.1 hj).1
    simp at this
    exact this
  subst hj0
  simp only [List.getElem?_cons_zero, Option.some.injEq] at hj
  subst hj
  refine ⟨[.int .i64 x.f0, .string x.f1, .string x.f2, .slice A x.f3.length c], rfl, k32_mk w x hc hr, fun i u hi => ?_⟩
  have ha : (⟨g, 0, none⟩ : Addr).add (0 * 4 + i) = ⟨g, i, none⟩ := by unfold Addr.add; split <;> simp_all
  show w.cell? ((⟨g, 0, none⟩ : Addr).add (0 * 4 + i)) = _
  rw [ha]
  simp only [World.cell?, h]
  simpa using hi

set_option maxHeartbeats 1000000 in
theorem none_walk (x : ActS) (A : Option Addr) (c : Nat) (w : World) (hc : x.f3.length ≤ c) (hr : Kd.C Kd.string w A x.f3.length x.f3) :
    Calls Try.prog 5 #[.agg #[.int .i64 x.f0, .string x.f1, .string x.f2, .slice A x.f3.length c]] w fun e w' => e = .returned (.bool true) ∧ Below w.heap.size w w' := by
  have hb0 : Below w.heap.size w ((w.alloc (.cells #[.int .i64 x.f0, .string x.f1, .string x.f2, .slice A x.f3.length c] 32)).alloc (.cells #[.int .i64 x.f0, .string x.f1, .string x.f2, .slice A x.f3.length c] 32)) :=
    ((Below.refl _ _).alloc (Nat.le_refl _) _).alloc (by simp) _
  have hrow : Kd.C k32 ((w.alloc (.cells #[.int .i64 x.f0, .string x.f1, .string x.f2, .slice A x.f3.length c] 32)).alloc (.cells #[.int .i64 x.f0, .string x.f1, .string x.f2, .slice A x.f3.length c] 32)) (some ⟨w.heap.size + 1, 0, none⟩) 1 [x] :=
    act_read (by have := heap_alloc_new (w.alloc (.cells #[.int .i64 x.f0, .string x.f1, .string x.f2, .slice A x.f3.length c] 32)) (.cells #[.int .i64 x.f0, .string x.f1, .string x.f2, .slice A x.f3.length c] 32); simpa using this) hc (Kd.C_below hr hb0)
  obtain ⟨r, hsm, hgr⟩ := great_calls (l := [x]) (c := 1) hrow (by simp)
  have HG := Lib.hid hgr
  have HB0 := Lib.hid hb0
  clear hrow hgr hsm hb0 hr
  go_enter Try.func5, Try.ntmps5
  go_wp2_with fail
  refine HG.out.mono ?_
  rintro e w1 ⟨rfl, hd⟩
  have hb1 := HB0.out.trans (hd.below.mono (by simp; omega))
  have hbx : Below (w.heap.size + 1) (w.alloc (.cells #[.int .i64 x.f0, .string x.f1, .string x.f2, .slice A x.f3.length c] 32)) w1 := ((Below.refl _ _).alloc (by simp) _).trans (hd.below.mono (by simp))
  have hbl : w1.heap[w.heap.size]? = some (.cells #[.int .i64 x.f0, .string x.f1, .string x.f2, .slice A x.f3.length c] 32) := (hbx.block w.heap.size (by omega)).trans (heap_alloc_new w _)
  have hsz := hbx.size
  have HBL := Lib.hid hbl
  have k1 : w1.cell? ⟨w.heap.size, 1, none⟩ = some (.string x.f1) := by simp [World.cell?, hbl]
  have k2 : w1.cell? ⟨w.heap.size, 2, none⟩ = some (.string x.f2) := by simp [World.cell?, hbl]
  have k3 : w1.cell? ⟨w.heap.size, 3, none⟩ = some (.slice A x.f3.length c) := by simp [World.cell?, hbl]
  have hlt : w.heap.size < w1.heap.size := by have := (Array.getElem?_eq_some_iff.1 hbl).1; exact this
  clear HG HB0 hd hbx hbl
  cases r with
  | true =>
    go_wp2_with (go_at_call 7; refine (awake_any _).mono ?_; rintro e w2 ⟨rfl, hb2⟩)
    go_ret
    exact ⟨rfl, hb1.trans (hb2.mono hb1.size)⟩
  | false =>
    go_wp2_with (first
      | (go_at_call 9; refine (put_nil _ _ _ _ _ _).mono ?_; rintro e w2 ⟨rfl, hb2⟩; have m1 := (hb2.cell (p := ⟨w.heap.size, 1, none⟩) hlt).trans k1)
      | (go_at_call 12; refine (come_nil _ _).mono ?_; rintro e w3 ⟨rfl, hb3⟩; have n1 := (hb3.cell (p := ⟨w.heap.size, 1, none⟩) (Nat.lt_of_lt_of_le hlt hb2.size)).trans m1)
      | (go_at_call 16; refine (drop_nil _ _).mono ?_; rintro e w4 ⟨rfl, hb4⟩; have o1 := (hb4.cell (p := ⟨w.heap.size, 1, none⟩) (Nat.lt_of_lt_of_le (Nat.lt_of_lt_of_le hlt hb2.size) hb3.size)).trans n1)
      | (go_at_call 17; refine (has_nil _ _).mono ?_; rintro e w5 ⟨rfl, hb5⟩)
      | (go_at_call 14; refine (missing_nil _).mono ?_; rintro e w6 ⟨rfl, hb6⟩)
      | (go_at_call 10; refine (len_nil _).mono ?_; rintro e w7 ⟨rfl, rfl⟩)
      | (go_at_call 7; refine (awake_any _).mono ?_; rintro e w8 ⟨rfl, hb8⟩))
    go_ret
    have c2 := hb1.trans (hb2.mono hb1.size)
    have c3 := c2.trans (hb3.mono c2.size)
    have c4 := c3.trans (hb4.mono c3.size)
    have c5 := c4.trans (hb5.mono c4.size)
    have c6 := c5.trans (hb6.mono c5.size)
    exact ⟨rfl, c6.trans (hb8.mono c6.size)⟩

end Go.Proofs.Ytaecjkffemmpcaa
