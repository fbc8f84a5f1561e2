/- What the form tells of rows. -/
import Derived.Test.YtajfpekogoggaaaRows1
set_option linter.unusedVariables false
set_option linter.unusedSimpArgs false
namespace Go.Proofs.Ytajfpekogoggaaa
open Go
variable {H : Type} {enc : TypeId × Value → H} {W : World} {base : Nat} {spare : Nat → Bool} {held : Bool}
theorem tells_row : Tells H enc Try.prog W base spare held 25 RowW.cells (fun _ => True) (fun r => r.body.size + 8) :=
  (tells_struct Try.underlying25 (tot := 7) (by kernel_rfl)
    (tells_field (k := 1) rfl (by kernel_rfl) (tells_int Try.underlying3) (tells_field (k := 1) rfl (by kernel_rfl) (tells_int Try.underlying3) (tells_field (k := 1) rfl (by kernel_rfl) (tells_int Try.underlying3) (tells_field (k := 1) rfl (by kernel_rfl) (tells_int Try.underlying3)
    (tells_field (k := 1) rfl (by kernel_rfl) (tells_int Try.underlying3) (tells_field (k := 1) rfl (by kernel_rfl) (tells_int Try.underlying3) (tells_field (k := 1) rfl (by kernel_rfl) (tells_string Try.underlying9) tells_none)))))))).map
    (fun x => ⟨x.1, x.2.1, x.2.2.1, x.2.2.2.1, x.2.2.2.2.1, x.2.2.2.2.2.1, x.2.2.2.2.2.2.1⟩) (fun _ => rfl) (fun _ _ => trivial) (fun x => by simp only []; omega)
theorem tells_rows : Tells H enc Try.prog W base spare held 41 (LstV.cells (α := RowW)) (LstV.ok W RowW.cells (fun _ => True)) (LstV.size (fun r => r.body.size + 8)) :=
  tells_list Try.underlying41 (k := 7) (by kernel_rfl) (by decide) (fun _ => rfl) tells_row
end Go.Proofs.Ytajfpekogoggaaa
