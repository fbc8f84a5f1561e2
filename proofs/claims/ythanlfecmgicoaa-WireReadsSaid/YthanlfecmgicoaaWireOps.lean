/- What the form tells of a script of reading calls. -/
import Derived.Test.YthanlfecmgicoaaWireSticks
import Derived.Test.YthanlfecmgicoaaKitV
set_option linter.unusedVariables false
namespace Go.Proofs.Ythanlfecmgicoaa
open Go
variable {H : Type} {enc : TypeId × Value → H} {W : World} {base : Nat} {spare : Nat → Bool} {held : Bool}
theorem tells_op : Tells H enc Try.prog W base spare held 53 OpV.cells (fun _ => True) (fun _ => 0) :=
  (tells_struct Try.underlying53 (tot := 3) (by kernel_rfl)
    (tells_field (k := 1) rfl (by kernel_rfl) (tells_int Try.underlying3) (tells_field (k := 1) rfl (by kernel_rfl) (tells_int Try.underlying3) (tells_field (k := 1) rfl (by kernel_rfl) (tells_int Try.underlying3) tells_none)))).map
    (fun x => (x.1, x.2.1, x.2.2.1)) (fun _ => rfl) (fun _ _ => trivial) (fun _ => Nat.zero_le _)
theorem tells_ops : Tells H enc Try.prog W base spare held 49 (LstV.cells (α := OpV)) (LstV.ok W OpV.cells (fun _ => True)) (LstV.size (fun _ => 0)) :=
  tells_list Try.underlying49 (k := 3) (by kernel_rfl) (by decide) (fun _ => rfl) tells_op
end Go.Proofs.Ythanlfecmgicoaa
