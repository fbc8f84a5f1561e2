/- What the form tells of the machine's scripts. -/
import Derived.Test.YtgidabcmbngcbaaMac4
import Derived.Test.YtgidabcmbngcbaaKit3
set_option linter.unusedVariables false
set_option linter.unusedSimpArgs false
namespace Go.Proofs.Ytgidabcmbngcbaa
open Go
variable {H : Type} {enc : TypeId × Value → H} {W : World} {base : Nat} {spare : Nat → Bool} {held : Bool}
theorem tells_step : Tells H enc Try.prog W base spare held 89 StepM.cells (fun _ => True) (fun _ => 1) :=
  (tells_struct Try.underlying89 (tot := 5) (by kernel_rfl)
    (tells_field (k := 1) rfl (by kernel_rfl) (tells_int Try.underlying3) (tells_field (k := 1) rfl (by kernel_rfl) (tells_int Try.underlying3) (tells_field (k := 1) rfl (by kernel_rfl) (tells_int Try.underlying3) (tells_field (k := 1) rfl (by kernel_rfl) (tells_string Try.underlying9) (tells_field (k := 1) rfl (by kernel_rfl) (tells_string Try.underlying9) tells_none)))))).map
    (fun x => ⟨x.1, x.2.1, x.2.2.1, x.2.2.2.1, x.2.2.2.2.1⟩) (fun _ => rfl) (fun _ _ => trivial) (fun x => by (try dsimp only); omega)
theorem tells_steps : Tells H enc Try.prog W base spare held 56 (LstV.cells (α := StepM)) (LstV.ok W StepM.cells (fun _ => True)) (LstV.size (fun _ => 1)) :=
  tells_list Try.underlying56 (k := 5) (by kernel_rfl) (by decide) (fun _ => rfl) tells_step
end Go.Proofs.Ytgidabcmbngcbaa
