/- The law on walks with the reading of rows. -/
import Derived.Test.YtgidabcmbngcbaaWalk3
import Derived.Test.YtgidabcmbngcbaaRowsT
set_option linter.unusedVariables false
namespace Go.Proofs.Ytgidabcmbngcbaa
end Go.Proofs.Ytgidabcmbngcbaa
