/- Growth: what is above an operation are its past's ends, and what is above these. -/
import Derived.Test.YtlijnaneopediaaGreatDoorW6
namespace Go.Proofs.YtlijnaneopediaaGreatDoor
set_option linter.unusedSectionVars false
set_option linter.unusedVariables false
set_option linter.unusedSimpArgs false
open Go.RowKit Tryz
end Go.Proofs.YtlijnaneopediaaGreatDoor
