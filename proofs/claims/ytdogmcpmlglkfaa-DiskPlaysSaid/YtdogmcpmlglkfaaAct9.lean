/- What an act of layer 9 reads as. -/
import Derived.Test.YtdogmcpmlglkfaaOpn
import Derived.Test.YtdogmcpmlglkfaaDD
namespace Go.Proofs.Ytdogmcpmlglkfaa
open Go.RowKit Go.Proofs.YtdogmcpmlglkfaaW.PrintWords Go.Proofs.Ytdogmcpmlglkfaa.PRef

theorem act9_opens {H : Type} (enc : TypeId × Value → H) (w : World) (spare : Nat → Bool) (held : Bool) :
    Opens enc Try.prog w spare held 44 k44 (fun x => (Lit.int .i64 x.f0).wf = true ∧ x.f1.size ≤ maxLen ∧ x.f2.size ≤ maxLen ∧ (Lit.int .i64 x.f3).wf = true ∧ x.f4.length ≤ maxLen ∧ ∀ s ∈ x.f4, (Lit.int .i64 s).wf = true) :=
  Opens.iso (fun x : Act9 => (x.f0, x.f1, x.f2, x.f3, x.f4)) (fun y => ⟨y.1, y.2.1, y.2.2.1, y.2.2.2.1, y.2.2.2.2⟩) (fun _ => rfl)
    (Opens.struct5 Try.underlying44 ⟨rfl, by kernel_rfl, rfl, by kernel_rfl, rfl, by kernel_rfl, rfl, by kernel_rfl, rfl, by kernel_rfl, by kernel_rfl⟩
      (Opens.int Try.underlying3) (Opens.str Try.underlying9) (Opens.str Try.underlying9) (Opens.int Try.underlying3) (Opens.slice Try.underlying22 (by kernel_rfl) (Opens.int Try.underlying3)))

end Go.Proofs.Ytdogmcpmlglkfaa
