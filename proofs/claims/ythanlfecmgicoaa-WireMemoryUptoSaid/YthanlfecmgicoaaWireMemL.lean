/- The law on memory with the readings. -/
import Derived.Test.YthanlfecmgicoaaWireMem1
import Derived.Test.YthanlfecmgicoaaKitV
set_option linter.unusedVariables false
namespace Go.Proofs.Ythanlfecmgicoaa
end Go.Proofs.Ythanlfecmgicoaa
