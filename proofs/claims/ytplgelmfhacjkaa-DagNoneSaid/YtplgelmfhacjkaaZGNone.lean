/- DagNone: the walk of the law, the row. -/
import Derived.Test.YtplgelmfhacjkaaZD

namespace Go.Proofs.Ytplgelmfhacjkaa
open Go.RowKit Go.Proofs.YtplgelmfhacjkaaW.PrintWords

set_option maxHeartbeats 4000000 in
set_option maxRecDepth 100000 in
theorem dnone_walk (id : ByteArray) (A : Option Addr) (c : Nat) (ps : List ByteArray) (w : World) :
    Calls Try.prog 9 #[.string id, .slice A ps.length c] w fun e w' => e = .returned (.bool true) ∧ Below w.heap.size w w' := by
  by_cases h1 : (300 : Int) < (id.size : Int)
  · go_enter Try.func9, Try.ntmps9
    go_wp2_with (go_at_call 16; refine (awake12 _).mono ?_; rintro e w2 ⟨rfl, hb2⟩)
    go_ret
    exact ⟨rfl, hb2⟩
  · by_cases h2 : (60 : Int) < (ps.length : Int)
    · go_enter Try.func9, Try.ntmps9
      go_wp2_with (go_at_call 16; refine (awake12 _).mono ?_; rintro e w2 ⟨rfl, hb2⟩)
      go_ret
      exact ⟨rfl, hb2⟩
    · go_enter Try.func9, Try.ntmps9
      go_wp2_with (first
        | (go_at_call 12; refine (add_none _ _ _ _ _).mono ?_; rintro e w ⟨rfl, rfl⟩)
        | (go_at_call 22; refine (has_none _ _).mono ?_; rintro e w ⟨rfl, rfl⟩)
        | (go_at_call 13; refine (len_none _).mono ?_; rintro e w ⟨rfl, rfl⟩)
        | (go_at_call 25; refine (parents_none _ _).mono ?_; rintro e w ⟨rfl, rfl⟩)
        | (go_at_call 15; refine (heads_none _).mono ?_; rintro e w ⟨rfl, rfl⟩)
        | (go_at_call 27; refine (pastS_none _ _).mono ?_; rintro e w ⟨rfl, rfl⟩)
        | (go_at_call 19; refine (ahead_none _ _ _).mono ?_; rintro e w ⟨rfl, rfl⟩)
        | (go_at_call 14; refine (order_none _).mono ?_; rintro e w ⟨rfl, rfl⟩)
        | (go_at_call 30; refine (copy_none _).mono ?_; rintro e w ⟨rfl, rfl⟩)
        | (go_at_call 16; refine (awake12 _).mono ?_; rintro e w2 ⟨rfl, hb2⟩))
      go_ret
      exact ⟨rfl, hb2⟩

end Go.Proofs.Ytplgelmfhacjkaa

namespace Go.Proofs.Ytplgelmfhacjkaa
open Go.ChangeShapes Go.WideShapes Go.ChangeAt Go.RowKit Go.Proofs.YtplgelmfhacjkaaW.PrintWords

set_option maxRecDepth 100000 in
theorem dagNone_lifted (os : Os) (started : os.Started) (H : Type) (enc : TypeId × Value → H) :
    ReturnsInHanded {} Try.checked os 9 .any (Rows.dagNoneSpec.pre6 enc Try.prog Try.f9 Rows.dagNoneRow.domain false) (Rows.dagNoneSpec.post enc Try.prog Try.f9 false true false false) := by
  refine returnsInHanded_of_change_sized (C := Try.checked) own0 started (by kernel_rfl) Try.func9
    (ChangeSpec.witness6 (enc := enc) (C := Try.checked) false ⟨#[], #[.string ByteArray.empty, .slice none 0 0], []⟩ 8 (by kernel_rfl) (by kernel_rfl) (by kernel_rfl) (by kernel_rfl)) ?_
  intro W base args ds gs before hval0 hW hcnd hsz0 _
  have hval : ∀ (j : Nat) t v, Try.f9.params[j]? = some t → args[j]? = some v → Value.okWide Try.prog W .any base t v := hval0
  have hW' := hW
  obtain ⟨p, q, hA0, hV, rfl, hfz, hnd⟩ := hW
  have hA : DataW.TrodAll enc Try.prog W 0 (fun _ => true) true Try.f9.params.toList args.toList ds p := hA0
  rw [Try.params9] at hA hval
  obtain ⟨v0, vs0, d0, ds0, p0, q0, hargs, rfl, rfl, h0, r0⟩ := trodAll_cons hA
  obtain ⟨v1, vs1, d1, ds1, p1, q1, rfl, rfl, rfl, h1, r1⟩ := trodAll_cons r0
  obtain ⟨rfl, rfl, rfl⟩ := trodAll_nil r1
  obtain rfl : args = #[v0, v1] := by cases args; simp_all
  obtain ⟨rfl, rfl⟩ := trodVars_none hV
  obtain ⟨a0, rfl⟩ := okWide_string Try.underlying9 (hval 0 9 v0 rfl rfl)
  obtain ⟨A1, n1, c1, rfl⟩ := okWide_slice Try.underlying25 (hval 1 25 v1 rfl rfl)
  have k0 := h0
  have k1 := h1
  have lt0 : ∀ x ∈ p0, x.block < W.heap.size := by obtain ⟨m, hm⟩ := k0; exact DataW.trod_lt m _ _ _ hm
  have lt1 : ∀ x ∈ p1, x.block < W.heap.size := by obtain ⟨m, hm⟩ := k1; exact DataW.trod_lt m _ _ _ hm
  obtain ⟨m1, hm1⟩ := h1
  obtain ⟨x1, hy1, hz1⟩ := Opens.slice Try.underlying25 (by kernel_rfl) (Opens.str Try.underlying9) m1 _ _ hm1
  obtain ⟨B1, e1, E1, l1, g1⟩ := hy1
  cases E1
  have hh1 := hz1.2
  clear hA0 hval0 hsz0
  refine (dnone_walk a0 A1 c1 x1 W).mono fun e W' ⟨he, bel⟩ => ?_
  subst he
  exact ⟨_, rfl, _, _, _, [], _, [], hW', trodAll_mk1 (shut_bool Try.underlying4 _), (trodAll_cons_mk (Below.trod laid (by kernel_rfl) (of_decide_eq_true (by kernel_rfl)) k0 bel lt0) (trodAll_cons_mk (Below.trod laid (by kernel_rfl) (of_decide_eq_true (by kernel_rfl)) k1 bel lt1) trodAll_mk0)), rfl, bel.frame _, fun h => by cases h⟩

theorem dagNone_over : Rows.dagNoneRow.holds Try.pinned (OpenSpec.ofChange Rows.dagNoneSpec) :=
  OpenClaim.holds_of_wide 9 Try.f9 rfl rfl rfl rfl rfl rfl rfl ⟨rfl, rfl, rfl, rfl, rfl⟩ rfl rfl rfl rfl rfl (by kernel_rfl) Try.func9 (by kernel_rfl)
    (of_decide_eq_true (by kernel_rfl)) (by unfold Func.isWrapper; first | (rw [if_pos (by decide +kernel)]; kernel_rfl) | (rw [if_neg (by decide +kernel)]; exact ⟨rfl, rfl⟩))
    (fun os started H enc _ => dagNone_lifted os started H enc)

theorem dagNone_holds : Rows.DagNoneSaid := dagNone_over
#print axioms dagNone_holds

end Go.Proofs.Ytplgelmfhacjkaa
