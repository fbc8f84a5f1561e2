/- What the form tells of lists of numbers. -/
import Derived.Test.YtjfjleejbbmmaaaLogPj
import Derived.Test.YtjfjleejbbmmaaaKit3
set_option linter.unusedVariables false
set_option linter.unusedSimpArgs false
namespace Go.Proofs.Ytjfjleejbbmmaaa
open Go
variable {H : Type} {enc : TypeId × Value → H} {W : World} {base : Nat} {spare : Nat → Bool} {held : Bool}
theorem tells_ints : Tells H enc Try.prog W base spare held 67 (LstV.cells (α := Int)) (LstV.ok W intC (fun n => (Lit.int .i64 n).wf = true)) (LstV.size (fun _ : Int => 1)) :=
  tells_list Try.underlying67 (k := 1) (by kernel_rfl) (by decide) (fun _ => rfl) (tells_int Try.underlying3)
end Go.Proofs.Ytjfjleejbbmmaaa
