/- AIR: a round of LadderEdges, evaluated (state 0). -/
import Derived.Test.YtkedfokcclpihaaGreatDoorEdgR
set_option linter.unusedSectionVars false
set_option linter.unusedSimpArgs false
set_option linter.unusedVariables false
set_option linter.unnecessarySimpa false
set_option maxRecDepth 100000
namespace Go.Air
open S
theorem edg_0t (rs : List V) (i : Nat) : chkN (evCode callE msE 3000 (dropC 2 cBlk) (stX objs0 env0 [(34, rowV rs), (35, numV (lenR rs)), (36, numV i), (10, numV i), (11, .bool true)])) ids0t objs1 env1 [34, 35, 36] = some [some (.v (rowV rs)), some (.v (numV (lenR rs))), some (.v (numV i))] := by kernel_rfl
theorem edg_0f (rs : List V) (i : Nat) : chkN (evCode callE msE 3000 (dropC 2 cBlk) (stX objs0 env0 [(34, rowV rs), (35, numV (lenR rs)), (36, numV i), (10, numV i), (11, .bool false)])) ids0f objs0 env0 [34, 35, 36] = some [some (.v (rowV rs)), some (.v (numV (lenR rs))), some (.v (numV i))] := by kernel_rfl
end Go.Air
