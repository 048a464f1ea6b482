/- AIR: LadderEdges, a part of it evaluated (c). -/
import Derived.Test.YtkedfokcclpihaaGreatDoorEdgM
import Derived.Test.YtkedfokcclpihaaGreatDoorEdgS
set_option linter.unusedSectionVars false
set_option linter.unusedSimpArgs false
set_option linter.unusedVariables false
set_option linter.unnecessarySimpa false
set_option maxRecDepth 100000
namespace Go.Air
open S
theorem edg_c (rs : List V) : chkN (evCode callE msE 3000 (takeC 1 (dropC 1 (dropC 2 T.a3.body))) (stX objsC1 envC1 [(0, .isl false 1 rs)])) idsC2 objsC2 envC2 [0] = some [some (.v (.isl false 1 rs))] := by kernel_rfl
theorem edg_d (rs : List V) : chkN (evCode callE msE 3000 (takeC 3 (dropC 1 (dropC 1 (dropC 2 T.a3.body)))) (stX objsC2 envC2 [(0, .isl false 1 rs)])) idsC3 objsC3 envC3 [0] = some [some (.v (.isl false 1 rs))] := by kernel_rfl
end Go.Air
