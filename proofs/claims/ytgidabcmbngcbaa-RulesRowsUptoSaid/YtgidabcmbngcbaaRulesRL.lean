/- The law on rows put together with the readings. -/
import Derived.Test.YtgidabcmbngcbaaRules8
import Derived.Test.YtgidabcmbngcbaaRecT
set_option linter.unusedVariables false
namespace Go.Proofs.Ytgidabcmbngcbaa
end Go.Proofs.Ytgidabcmbngcbaa
