/- AIR: a round of LadderEdges, evaluated (state 1). -/
import Derived.Test.YtkedfokcclpihaaGreatDoorEdgR
set_option linter.unusedSectionVars false
set_option linter.unusedSimpArgs false
set_option linter.unusedVariables false
set_option linter.unnecessarySimpa false
set_option maxRecDepth 100000
namespace Go.Air
open S
theorem edg_1t (rs : List V) (i : Nat) : chkN (evCode callE msE 3000 (dropC 2 cBlk) (stX objs1 env1 [(34, rowV rs), (35, numV (lenR rs)), (36, numV i), (10, numV i), (11, .bool true)])) ids1t objs2 env2 [34, 35, 36] = some [some (.v (rowV rs)), some (.v (numV (lenR rs))), some (.v (numV i))] := by kernel_rfl
theorem edg_1f (rs : List V) (i : Nat) : chkN (evCode callE msE 3000 (dropC 2 cBlk) (stX objs1 env1 [(34, rowV rs), (35, numV (lenR rs)), (36, numV i), (10, numV i), (11, .bool false)])) ids1f objs3 env3 [34, 35, 36] = some [some (.v (rowV rs)), some (.v (numV (lenR rs))), some (.v (numV i))] := by kernel_rfl
end Go.Air
