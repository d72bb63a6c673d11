/- One thing of a table that is turned. -/
import Derived.Test.YtpbjjhpihhnomaaGreatDoorJ30
import Derived.Test.YtpbjjhpihhnomaaGreatDoorJ28
set_option linter.unusedVariables false
set_option linter.unusedSimpArgs false
set_option maxRecDepth 100000
set_option maxHeartbeats 4000000

namespace Go.Proofs.YtpbjjhpihhnomaaGreatDoor
open Go Go.Abs
attribute [local irreducible] DrawW CallW RetW AC Does CmpW
variable {G : Globs}
end Go.Proofs.YtpbjjhpihhnomaaGreatDoor
