/- Steps of a script. -/
import Derived.Test.YtjeghbachokljaaSpA
set_option linter.unusedVariables false
namespace Go.Proofs.Ytjeghbachokljaa
open Go
structure SOp where
  kind : Int
  a : Int
  b : Int
  key : ByteArray
  s : Sp
def SOp.cells (o : SOp) : List Value := [.int .i64 o.kind, .int .i64 o.a, .int .i64 o.b, .string o.key, .int .i64 o.s.a, .int .i64 o.s.b, .int .i64 o.s.c]
end Go.Proofs.Ytjeghbachokljaa
