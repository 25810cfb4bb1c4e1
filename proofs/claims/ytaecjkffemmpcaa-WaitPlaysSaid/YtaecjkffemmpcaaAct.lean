/- What an act reads as; the program's knobs. -/
import Derived.Test.YtaecjkffemmpcaaRows
import Derived.Test.YtaecjkffemmpcaaOpn
import Derived.Test.YtaecjkffemmpcaaPur2
import Derived.OpenShut
import Derived.ChangeOld
namespace Go.Proofs.Ytaecjkffemmpcaa
open Go.ChangeShapes Go.WideShapes Go.ChangeAt Go.RowKit Go.Proofs.YtaecjkffemmpcaaW.PrintWords Go.Proofs.Ytaecjkffemmpcaa.PRef

theorem own13 : ownKnob Try.prog.godebug = none := by kernel_rfl
theorem laid13 : laidOutB Try.prog = true := by kernel_rfl

/-- What an act reads as. -/
theorem act_opens {H : Type} (enc : TypeId × Value → H) (w : World) (spare : Nat → Bool) (held : Bool) :
    Opens enc Try.prog w spare held 32 k32 (fun x => (Lit.int .i64 x.f0).wf = true ∧ x.f1.size ≤ maxLen ∧ x.f2.size ≤ maxLen ∧ x.f3.length ≤ maxLen ∧ ∀ s ∈ x.f3, s.size ≤ maxLen) :=
  Opens.iso (fun x : ActS => (x.f0, x.f1, x.f2, x.f3)) (fun y => ⟨y.1, y.2.1, y.2.2.1, y.2.2.2⟩) (fun _ => rfl)
    (Opens.struct4 Try.underlying32 ⟨rfl, by kernel_rfl, rfl, by kernel_rfl, rfl, by kernel_rfl, rfl, by kernel_rfl, by kernel_rfl⟩
      (Opens.int Try.underlying3) (Opens.str Try.underlying9) (Opens.str Try.underlying9) (Opens.slice Try.underlying30 (by kernel_rfl) (Opens.str Try.underlying9)))

end Go.Proofs.Ytaecjkffemmpcaa
