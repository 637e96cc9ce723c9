/- The table with hex. -/
import Derived.Test.YtlnimdiddoalmaaL1t
import Derived.Test.YtlnimdiddoalmaaL1C
import Derived.Test.YtlnimdiddoalmaaIB

set_option linter.unusedVariables false
set_option maxRecDepth 100000
namespace Go.Sx
open Go.Proofs
def C1h : Tab := ((((C1.add 26 c26).add 14 c14).add 27 c27).add 16 c14).add 17 c15
theorem ok1h : OKT Try.prog C1h := k17 (k16 (k27 (k14 (k26 ok1 (enters_fn Try.func26 rfl rfl) ib26) t14 rfl) t27) t16 rfl) t17
end Go.Sx
