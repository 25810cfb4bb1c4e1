/- WaitNone, proved: of no room nothing comes: Put answers ErrArg, and all else is empty. For every act, without a condition. -/
import Derived.Test.YtaecjkffemmpcaaRows
import Derived.Test.YtaecjkffemmpcaaNone
import Derived.Test.YtaecjkffemmpcaaOpn
import Derived.OpenShut
import Derived.ChangeOld
namespace Go.Proofs.Ytaecjkffemmpcaa
open Go.ChangeShapes Go.WideShapes Go.ChangeAt Go.RowKit Go.Proofs.YtaecjkffemmpcaaW.PrintWords Go.Proofs.Ytaecjkffemmpcaa.PRef

theorem own13 : ownKnob Try.prog.godebug = none := by kernel_rfl
theorem laid13 : laidOutB Try.prog = true := by kernel_rfl

/-- What an act reads as. -/
theorem act_opens {H : Type} (enc : TypeId × Value → H) (w : World) (spare : Nat → Bool) (held : Bool) :
    Opens enc Try.prog w spare held 32 k32 (fun x => (Lit.int .i64 x.f0).wf = true ∧ x.f1.size ≤ maxLen ∧ x.f2.size ≤ maxLen ∧ x.f3.length ≤ maxLen ∧ ∀ s ∈ x.f3, s.size ≤ maxLen) :=
  Opens.iso (fun x : ActS => (x.f0, x.f1, x.f2, x.f3)) (fun y => ⟨y.1, y.2.1, y.2.2.1, y.2.2.2⟩) (fun _ => rfl)
    (Opens.struct4 Try.underlying32 ⟨rfl, by kernel_rfl, rfl, by kernel_rfl, rfl, by kernel_rfl, rfl, by kernel_rfl, by kernel_rfl⟩
      (Opens.int Try.underlying3) (Opens.str Try.underlying9) (Opens.str Try.underlying9) (Opens.slice Try.underlying30 (by kernel_rfl) (Opens.str Try.underlying9)))

set_option maxRecDepth 100000 in
theorem none_lifted (os : Os) (started : os.Started) (H : Type) (enc : TypeId × Value → H) :
    ReturnsInHanded {} Try.checked os 5 .any (Rows.waitNoneSpec.pre6 enc Try.prog Try.f5 Rows.waitNoneRow.domain false) (Rows.waitNoneSpec.post enc Try.prog Try.f5 false true false false) := by
  refine returnsInHanded_of_change_sized (C := Try.checked) own13 started (by kernel_rfl) Try.func5
    (ChangeSpec.witness6 (enc := enc) (C := Try.checked) false ⟨#[], #[.agg #[.int .i64 0, .string ByteArray.empty, .string ByteArray.empty, .slice none 0 0]], []⟩ 8 (by kernel_rfl) (by kernel_rfl) (by kernel_rfl) (by kernel_rfl)) ?_
  intro W base args ds gs before hval0 hW hcnd hsz0 _
  have hval : ∀ (j : Nat) t v, Try.f5.params[j]? = some t → args[j]? = some v → Value.okWide Try.prog W .any base t v := hval0
  have hW' := hW
  obtain ⟨p, q, hA0, hV, rfl, hfz, hnd⟩ := hW
  have hA : DataW.TrodAll enc Try.prog W 0 (fun _ => true) true Try.f5.params.toList args.toList ds p := hA0
  rw [Try.params5] at hA hval
  obtain ⟨v0, vs0, d0, ds0, p0, q0, hargs, rfl, rfl, h0, r0⟩ := trodAll_cons hA
  obtain ⟨rfl, rfl, rfl⟩ := trodAll_nil r0
  obtain rfl : args = #[v0] := by cases args; simp_all
  obtain ⟨rfl, rfl⟩ := trodVars_none hV
  obtain ⟨cs, rfl, hcs⟩ := okWide_struct Try.underlying32 (hval 0 32 v0 rfl rfl)
  have k0 := h0
  have lt0 : ∀ x ∈ p0, x.block < W.heap.size := by obtain ⟨m, hm⟩ := k0; exact DataW.trod_lt m _ _ _ hm
  obtain ⟨m, hm⟩ := h0
  obtain ⟨x, hx0, _⟩ := act_opens enc W _ _ m _ _ hm
  have hx : k32.K W x cs.toList := hx0
  obtain ⟨A3, c3, e3, l3, g3⟩ := k32_open hx
  obtain rfl : cs = #[.int .i64 x.f0, .string x.f1, .string x.f2, .slice A3 x.f3.length c3] := by cases cs; simp_all
  clear hA0 hval0 hsz0
  refine (none_walk x A3 c3 W l3 g3).mono fun e W' ⟨he, bel⟩ => ?_
  subst he
  exact ⟨_, rfl, _, _, _, [], _, [], hW', trodAll_mk1 (shut_bool Try.underlying4 _), (trodAll_cons_mk (Below.trod laid13 (by kernel_rfl) (of_decide_eq_true (by kernel_rfl)) k0 bel lt0) trodAll_mk0), rfl, bel.frame _, fun h => by cases h⟩

theorem waitNone_over : Rows.waitNoneRow.holds Try.pinned (OpenSpec.ofChange Rows.waitNoneSpec) :=
  OpenClaim.holds_of_wide 5 Try.f5 rfl rfl rfl rfl rfl rfl rfl ⟨rfl, rfl, rfl, rfl, rfl⟩ rfl rfl rfl rfl rfl (by kernel_rfl) Try.func5 (by kernel_rfl)
    (of_decide_eq_true (by kernel_rfl)) (by unfold Func.isWrapper; first | (rw [if_pos (by decide +kernel)]; kernel_rfl) | (rw [if_neg (by decide +kernel)]; exact ⟨rfl, rfl⟩))
    (fun os started H enc _ => none_lifted os started H enc)

theorem waitNone_holds : Rows.WaitNoneSaid := waitNone_over
#print axioms waitNone_holds

end Go.Proofs.Ytaecjkffemmpcaa
