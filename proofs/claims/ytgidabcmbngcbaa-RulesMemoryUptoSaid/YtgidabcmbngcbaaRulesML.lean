/- The law on memory put together with the readings. -/
import Derived.Test.YtgidabcmbngcbaaRulesM2
import Derived.Test.YtgidabcmbngcbaaRecT
set_option linter.unusedVariables false
namespace Go.Proofs.Ytgidabcmbngcbaa
end Go.Proofs.Ytgidabcmbngcbaa
