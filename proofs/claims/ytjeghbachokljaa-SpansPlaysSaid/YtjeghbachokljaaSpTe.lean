/- What the form tells of spans and lists of spans and of numbers. -/
import Derived.Test.YtjeghbachokljaaSpA
import Derived.Test.YtjeghbachokljaaKit3
set_option linter.unusedVariables false
set_option linter.unusedSimpArgs false
namespace Go.Proofs.Ytjeghbachokljaa
open Go
variable {H : Type} {enc : TypeId × Value → H} {W : World} {base : Nat} {spare : Nat → Bool} {held : Bool}
theorem tells_ints : Tells H enc Try.prog W base spare held 33 (LstV.cells (α := Int)) (LstV.ok W (fun n => [.int .i64 n]) (fun n => (Lit.int .i64 n).wf = true)) (LstV.size (fun _ => 1)) :=
  tells_list Try.underlying33 (k := 1) (by kernel_rfl) (by decide) (fun _ => rfl) (tells_int Try.underlying3)
theorem tells_sp : Tells H enc Try.prog W base spare held 28 Sp.cells (fun _ => True) (fun _ => 3) :=
  (tells_struct Try.underlying28 (tot := 3) (by kernel_rfl)
    (tells_field (k := 1) rfl (by kernel_rfl) (tells_int Try.underlying3) (tells_field (k := 1) rfl (by kernel_rfl) (tells_int Try.underlying3) (tells_field (k := 1) rfl (by kernel_rfl) (tells_int Try.underlying3) tells_none)))).map
    (fun x => ⟨x.1, x.2.1, x.2.2.1⟩) (fun _ => rfl) (fun _ _ => trivial) (fun x => by (try dsimp only); omega)
theorem tells_sps : Tells H enc Try.prog W base spare held 29 (LstV.cells (α := Sp)) (LstV.ok W Sp.cells (fun _ => True)) (LstV.size (fun _ => 3)) :=
  tells_list Try.underlying29 (k := 3) (by kernel_rfl) (by decide) (fun _ => rfl) tells_sp
end Go.Proofs.Ytjeghbachokljaa
