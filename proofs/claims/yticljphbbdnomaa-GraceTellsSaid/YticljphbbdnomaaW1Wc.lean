import Derived.Test.YticljphbbdnomaaW1Wb
namespace Go.Proofs.Yticljphbbdnomaa.VL
open Go
set_option linter.unusedVariables false
set_option linter.unusedSimpArgs false
set_option linter.unusedSectionVars false
variable [Val]
variable {P:Program}
structure Known where
 f:Nat
 args:List PV
 r:PV
end Go.Proofs.Yticljphbbdnomaa.VL
