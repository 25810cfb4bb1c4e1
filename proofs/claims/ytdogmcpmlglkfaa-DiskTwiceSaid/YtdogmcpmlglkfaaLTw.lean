/- DiskTwice, proved: a crash behind a crash changes nothing, whatever is kept. For every input, without a condition. -/
import Derived.Test.YtdogmcpmlglkfaaKnb
import Derived.Test.YtdogmcpmlglkfaaAct9
import Derived.Test.YtdogmcpmlglkfaaDT
namespace Go.Proofs.Ytdogmcpmlglkfaa
open Go.ChangeShapes Go.WideShapes Go.ChangeAt Go.RowKit Go.Proofs.YtdogmcpmlglkfaaW.PrintWords Go.Proofs.Ytdogmcpmlglkfaa.PRef

set_option maxRecDepth 100000 in
theorem diskTwice_lifted (os : Os) (started : os.Started) (H : Type) (enc : TypeId × Value → H) :
    ReturnsInHanded {} Try.checked os 6 .any (Rows.diskTwiceSpec.pre6 enc Try.prog Try.f6 Rows.diskTwiceRow.domain false) (Rows.diskTwiceSpec.post enc Try.prog Try.f6 false true false false) := by
  refine returnsInHanded_of_change_sized (C := Try.checked) own0 started (by kernel_rfl) Try.func6
    (ChangeSpec.witness6 (enc := enc) (C := Try.checked) false ⟨#[], #[.slice none 0 0, .slice none 0 0, .slice none 0 0], []⟩ 8 (by kernel_rfl) (by kernel_rfl) (by kernel_rfl) (by kernel_rfl)) ?_
  intro W base args ds gs before hval0 hW hcnd hsz0 _
  have hval : ∀ (j : Nat) t v, Try.f6.params[j]? = some t → args[j]? = some v → Value.okWide Try.prog W .any base t v := hval0
  have hW' := hW
  obtain ⟨p, q, hA0, hV, rfl, hfz, hnd⟩ := hW
  have hA : DataW.TrodAll enc Try.prog W 0 (fun _ => true) true Try.f6.params.toList args.toList ds p := hA0
  rw [Try.params6] at hA hval
  obtain ⟨v0, vs0, d0, ds0, p0, q0, hargs, rfl, rfl, h0, r0⟩ := trodAll_cons hA
  obtain ⟨v1, vs1, d1, ds1, p1, q1, rfl, rfl, rfl, h1, r1⟩ := trodAll_cons r0
  obtain ⟨v2, vs2, d2, ds2, p2, q2, rfl, rfl, rfl, h2, r2⟩ := trodAll_cons r1
  obtain ⟨rfl, rfl, rfl⟩ := trodAll_nil r2
  obtain rfl : args = #[v0, v1, v2] := by cases args; simp_all
  obtain ⟨rfl, rfl⟩ := trodVars_none hV
  obtain ⟨A0, n0, c0, rfl⟩ := okWide_slice Try.underlying36 (hval 0 36 v0 rfl rfl)
  obtain ⟨A1, n1, c1, rfl⟩ := okWide_slice Try.underlying22 (hval 1 22 v1 rfl rfl)
  obtain ⟨A2, n2, c2, rfl⟩ := okWide_slice Try.underlying22 (hval 2 22 v2 rfl rfl)
  have k0 := h0
  have k1 := h1
  have k2 := h2
  have lt0 : ∀ x ∈ p0, x.block < W.heap.size := by obtain ⟨m, hm⟩ := k0; exact DataW.trod_lt m _ _ _ hm
  have lt1 : ∀ x ∈ p1, x.block < W.heap.size := by obtain ⟨m, hm⟩ := k1; exact DataW.trod_lt m _ _ _ hm
  have lt2 : ∀ x ∈ p2, x.block < W.heap.size := by obtain ⟨m, hm⟩ := k2; exact DataW.trod_lt m _ _ _ hm
  obtain ⟨m0, hm0⟩ := h0
  obtain ⟨x0, hy0, hz0⟩ := Opens.slice Try.underlying36 (by kernel_rfl) (act9_opens enc W _ _) m0 _ _ hm0
  obtain ⟨B0, e0, E0, l0, g0⟩ := hy0
  cases E0
  have hh0 := hz0.2
  obtain ⟨m1, hm1⟩ := h1
  obtain ⟨x1, hy1, hz1⟩ := Opens.slice Try.underlying22 (by kernel_rfl) (Opens.int Try.underlying3) m1 _ _ hm1
  obtain ⟨B1, e1, E1, l1, g1⟩ := hy1
  cases E1
  have hh1 := hz1.2
  obtain ⟨m2, hm2⟩ := h2
  obtain ⟨x2, hy2, hz2⟩ := Opens.slice Try.underlying22 (by kernel_rfl) (Opens.int Try.underlying3) m2 _ _ hm2
  obtain ⟨B2, e2, E2, l2, g2⟩ := hy2
  cases E2
  have hh2 := hz2.2
  clear hA0 hval0 hsz0
  refine (twice_walk A0 c0 x0 A1 c1 x1 A2 c2 x2 W l0 g0 (fun x hx => (i64_range (hh0 x hx).2.2.2.1).2) l1 g1 l2 g2).mono fun e W' ⟨he, bel⟩ => ?_
  subst he
  exact ⟨_, rfl, _, _, _, [], _, [], hW', trodAll_mk1 (shut_bool Try.underlying4 _), (trodAll_cons_mk (Below.trod laid (by kernel_rfl) (of_decide_eq_true (by kernel_rfl)) k0 bel lt0) (trodAll_cons_mk (Below.trod laid (by kernel_rfl) (of_decide_eq_true (by kernel_rfl)) k1 bel lt1) (trodAll_cons_mk (Below.trod laid (by kernel_rfl) (of_decide_eq_true (by kernel_rfl)) k2 bel lt2) trodAll_mk0))), rfl, bel.frame _, fun h => by cases h⟩

theorem diskTwice_over : Rows.diskTwiceRow.holds Try.pinned (OpenSpec.ofChange Rows.diskTwiceSpec) :=
  OpenClaim.holds_of_wide 6 Try.f6 rfl rfl rfl rfl rfl rfl rfl ⟨rfl, rfl, rfl, rfl, rfl⟩ rfl rfl rfl rfl rfl (by kernel_rfl) Try.func6 (by kernel_rfl)
    (of_decide_eq_true (by kernel_rfl)) (by unfold Func.isWrapper; first | (rw [if_pos (by decide +kernel)]; kernel_rfl) | (rw [if_neg (by decide +kernel)]; exact ⟨rfl, rfl⟩))
    (fun os started H enc _ => diskTwice_lifted os started H enc)

theorem diskTwice_holds : Rows.DiskTwiceSaid := diskTwice_over
#print axioms diskTwice_holds

end Go.Proofs.Ytdogmcpmlglkfaa
