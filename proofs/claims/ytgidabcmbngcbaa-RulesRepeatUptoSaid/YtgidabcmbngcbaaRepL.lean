/- The law on repeats with the reading of lists of transactions. -/
import Derived.Test.YtgidabcmbngcbaaSort6
import Derived.Test.YtgidabcmbngcbaaRecT
set_option linter.unusedVariables false
set_option linter.unusedSimpArgs false
namespace Go.Proofs.Ytgidabcmbngcbaa
open Go
variable {H : Type} {enc : TypeId × Value → H} {W : World} {base : Nat} {spare : Nat → Bool} {held : Bool}
theorem tells_txns : Tells H enc Try.prog W base spare held 52 (LstV.cells (α := TxnW)) (LstV.ok W TxnW.cells (fun t => LstV.ok W OpW.cells (fun _ => True) t.ops)) (LstV.size TxnW.sz) :=
  tells_list Try.underlying52 (k := 8) (by kernel_rfl) (by decide) (fun _ => rfl) tells_txn
end Go.Proofs.Ytgidabcmbngcbaa
