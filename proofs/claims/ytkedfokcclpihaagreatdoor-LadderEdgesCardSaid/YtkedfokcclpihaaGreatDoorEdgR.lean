/- AIR: the parts of LadderEdges' code. -/
import Derived.Test.YtkedfokcclpihaaGreatDoorEdgM
import Derived.Test.YtkedfokcclpihaaGreatDoorEdgS
set_option linter.unusedSectionVars false
set_option linter.unusedSimpArgs false
set_option linter.unusedVariables false
set_option linter.unnecessarySimpa false
set_option maxRecDepth 100000
namespace Go.Air
noncomputable section
def cEnd : ACode := dropC 3 (dropC 1 (dropC 1 (dropC 2 T.a3.body)))
def loopOf : ACode → ACode
  | .seq (.seq _ (.block _ (.loop b))) _ => b
  | _ => .stuck
def blkOf : ACode → ACode
  | .seq _ (.seq _ (.seq (.block _ b) _)) => b
  | _ => .stuck
def cRound : ACode := loopOf cEnd
def cBlk : ACode := blkOf cRound
def rowV (rs : List V) : V := .isl false 1 rs
def numV (i : Nat) : V := .int .i64 (.ofNat i)
end
end Go.Air
