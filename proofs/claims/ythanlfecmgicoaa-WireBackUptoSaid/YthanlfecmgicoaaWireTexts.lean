/- What the form tells of lists of numbers and of texts. -/
import Derived.Test.YthanlfecmgicoaaWireBack
import Derived.Test.YthanlfecmgicoaaKitV
set_option linter.unusedVariables false
set_option linter.unusedSimpArgs false
namespace Go.Proofs.Ythanlfecmgicoaa
open Go
variable {H : Type} {enc : TypeId × Value → H} {W : World} {base : Nat} {spare : Nat → Bool} {held : Bool}
theorem tells_ints : Tells H enc Try.prog W base spare held 44 (LstV.cells (α := Int)) (LstV.ok W (fun n => [.int .i64 n]) (fun n => (Lit.int .i64 n).wf = true)) (LstV.size (fun _ => 1)) :=
  tells_list Try.underlying44 (k := 1) (by kernel_rfl) (by decide) (fun _ => rfl) (tells_int Try.underlying3)
theorem tells_strs : Tells H enc Try.prog W base spare held 45 (LstV.cells (α := ByteArray)) (LstV.ok W (fun s => [.string s]) (fun s => s.size ≤ maxLen)) (LstV.size (fun s => s.size + 1)) :=
  tells_list Try.underlying45 (k := 1) (by kernel_rfl) (by decide) (fun _ => rfl) (tells_string Try.underlying9)
end Go.Proofs.Ythanlfecmgicoaa
