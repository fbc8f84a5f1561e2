/- What the form tells of scripts. -/
import Derived.Test.YtjeghbachokljaaSpSo
import Derived.Test.YtjeghbachokljaaSpTe
set_option linter.unusedVariables false
set_option linter.unusedSimpArgs false
namespace Go.Proofs.Ytjeghbachokljaa
open Go
variable {H : Type} {enc : TypeId × Value → H} {W : World} {base : Nat} {spare : Nat → Bool} {held : Bool}
theorem tells_sop : Tells H enc Try.prog W base spare held 49 SOp.cells (fun _ => True) (fun _ => 1) :=
  (tells_struct Try.underlying49 (tot := 7) (by kernel_rfl)
    (tells_field (k := 1) rfl (by kernel_rfl) (tells_int Try.underlying3) (tells_field (k := 1) rfl (by kernel_rfl) (tells_int Try.underlying3) (tells_field (k := 1) rfl (by kernel_rfl) (tells_int Try.underlying3) (tells_field (k := 1) rfl (by kernel_rfl) (tells_string Try.underlying9) (tells_field (k := 3) rfl (by kernel_rfl) tells_sp tells_none)))))).map
    (fun x => ⟨x.1, x.2.1, x.2.2.1, x.2.2.2.1, x.2.2.2.2.1⟩) (fun _ => rfl) (fun _ _ => trivial) (fun x => by (try dsimp only); omega)
theorem tells_sops : Tells H enc Try.prog W base spare held 43 (LstV.cells (α := SOp)) (LstV.ok W SOp.cells (fun _ => True)) (LstV.size (fun _ => 1)) :=
  tells_list Try.underlying43 (k := 7) (by kernel_rfl) (by decide) (fun _ => rfl) tells_sop
end Go.Proofs.Ytjeghbachokljaa
