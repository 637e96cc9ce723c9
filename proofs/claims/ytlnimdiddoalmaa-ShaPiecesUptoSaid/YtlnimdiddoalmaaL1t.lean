/- The table of contracts of layer 1. -/
import Derived.Test.YtlnimdiddoalmaaL1B
import Derived.Test.YtlnimdiddoalmaaSxC

set_option linter.unusedVariables false
set_option maxRecDepth 100000
namespace Go.Sx
open Go.Proofs
def C1 : Tab := (((((((((((((((((((Tab.none Try.prog).add 45 (det c45)).add 36 (det c36)).add 28 (det c28)).add 29 (det c29)).add 30 (det c30)).add 32 (det c32)).add 23 (det c23)).add 9 (det c9)).add 12 (det c12)).add 15 (det c15)).add 8 (det c8)).add 33 (det c33)).add 43 (det c43)).add 34 (det c34)).add 25 (det c25)).add 24 (det c24)).add 10 (det c10)).add 11 (det c11)).add 13 (det c13)
theorem ok1 : OKT Try.prog C1 :=
  k13 (k11 (k10 (k24 (k25 (k34 (k43 (k33 (k8 (k15 (k12 (k9 (k23 (k32 (k30 (k29 (k28 (k36 (k45 (OKT.none (Checked.mixed Try.checked)) t45) t36 rfl) t28) t29) t30 rfl) t32) t23 rfl rfl rfl rfl) t9 rfl) t12 rfl) t15) t8 rfl rfl) t33) t43) t34 rfl) t25) t24 rfl rfl rfl) t10 rfl) t11 rfl) t13 rfl rfl
theorem s4 {k : Int} {ss : List ByteArray} {i o m : Nat} {H : Hp} {n : Nat} (hr : rowAt H i (.strs []) = some (.strs ss)) (hom : o + m ≤ ss.length) (hb : m ≤ 1099511627776) (hl : (catb ((ss.drop o).take m)).length ≤ 1073741824) (hl2 : (tagb k ((ss.drop o).take m)).length ≤ 1073741824) :
    SpecAt Try.prog 4 [.v (.int .u8 k), .sl i o m 1] H n (.v (.bool true)) H n :=
  ok1.pure t4 (w4 hr hom hb hl hl2 rfl rfl rfl rfl rfl)
end Go.Sx
