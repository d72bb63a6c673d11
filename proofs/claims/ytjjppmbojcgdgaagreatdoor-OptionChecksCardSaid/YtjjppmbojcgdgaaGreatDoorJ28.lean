/- One thing of a table that is turned. -/
import Derived.Test.YtjjppmbojcgdgaaGreatDoorJ27
import Derived.Test.YtjjppmbojcgdgaaGreatDoorJ23
set_option linter.unusedVariables false
set_option linter.unusedSimpArgs false
set_option maxRecDepth 100000
set_option maxHeartbeats 4000000

namespace Go.Proofs.YtjjppmbojcgdgaaGreatDoor
open Go Go.Abs
attribute [local irreducible] DrawW CallW RetW AC Does CmpW
variable {G : Globs}
def curS (s : List UInt8) (n : Int) : TCur := ⟨s, s, [], [], n, 0, 0, 0⟩
end Go.Proofs.YtjjppmbojcgdgaaGreatDoor
