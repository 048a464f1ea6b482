/- AIR: LadderEdges, a part of it evaluated (a). -/
import Derived.Test.YtkedfokcclpihaaGreatDoorEdgM
import Derived.Test.YtkedfokcclpihaaGreatDoorEdgS
set_option linter.unusedSectionVars false
set_option linter.unusedSimpArgs false
set_option linter.unusedVariables false
set_option linter.unnecessarySimpa false
set_option maxRecDepth 100000
namespace Go.Air
open S
theorem edg_a (rs : List V) : chkN (evCode callE msE 3000 (takeC 2 T.a3.body) ⟨args0 [.isl false 1 rs] 0, .nil, 0, [], false⟩) idsC0 objsC0 envC0 [0] = some [some (.v (.isl false 1 rs))] := by kernel_rfl
end Go.Air
