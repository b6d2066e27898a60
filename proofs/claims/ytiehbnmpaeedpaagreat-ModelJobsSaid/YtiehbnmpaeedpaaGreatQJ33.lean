import Derived.Test.YtiehbnmpaeedpaaGreatQJ25
import Derived.Test.YtiehbnmpaeedpaaGreatQJ27
import Derived.Test.YtiehbnmpaeedpaaGreatQJ29
import Derived.WalkKit
import Derived.ProofKit
import Derived.OpenShut
set_option linter.unusedVariables false
set_option linter.unusedSectionVars false
namespace Go.AX
open Go Go.RowKit Go.ChangeShapes Go.WideShapes Go.Deep
variable [Kap]
section
variable {H:Type} {enc:TypeId×Value→H} {P:Program} {w:World}
end
end Go.AX
