/-
  LadderEdges: for every slice of bools the law's call returns true and leaves the slice as it was: the card, tied. Conditions: those that the card prints.
-/
import Derived.Test.YtkedfokcclpihaaGreatDoorEdgZ
import Derived.Test.YtkedfokcclpihaaGreatDoorTie
import Derived.Test.YtkedfokcclpihaaGreatDoorCards
import Derived.OpenShut
import Derived.Stop.Joined
import Derived.SevenTiedAt
set_option linter.unusedSectionVars false
set_option linter.unusedSimpArgs false
set_option linter.unusedVariables false
set_option linter.unnecessarySimpa false
namespace Go.Proofs.YtkedfokcclpihaaGreatDoor
open Go Go.Proofs
set_option maxRecDepth 100000

theorem edg_row_holds : Rows.LadderEdgesSaid :=
  OpenClaim.holds_of_wide 3 Tryz.f3 rfl rfl rfl rfl rfl rfl rfl ⟨rfl, rfl, rfl, rfl, rfl⟩ rfl rfl rfl rfl rfl (by kernel_rfl) Tryz.func3 (by kernel_rfl)
    (of_decide_eq_true (by kernel_rfl)) (by unfold Func.isWrapper; first | (rw [if_pos (by decide +kernel)]; kernel_rfl) | (rw [if_neg (by decide +kernel)]; exact ⟨rfl, rfl⟩))
    (fun os started H enc _ => Go.Air.lifted os started H enc)

theorem ladderEdges_holds : Rows.LadderEdgesCardSaid :=
  Claim7.holds_tied_plain_at .later [] [.data, .data, .data, .data, .pinned] true (true, "3fbdd24160ae2b256029b3bee436a82a64adad1b01919843df81ca5904a0c76c") true
    edg_row_holds (fun _ h => by cases h) (by kernel_rfl) (fun _ h => by cases h) ladderEdges_row_tie rfl ⟨rfl, rfl⟩ (by kernel_rfl) rfl
    (fun f fn hf hfn => by
      obtain rfl : f = 3 := Option.some.inj ((show Tryz.prog.funcNamed "plantwright/plantwrightkeep.LadderEdges" = some 3 by kernel_rfl).symm.trans hf) |>.symm
      obtain rfl : fn = Tryz.f3 := (Option.some.inj (Tryz.func3.symm.trans hfn)).symm
      exact ⟨by kernel_rfl, fun j t ht => by
        rw [Tryz.params3] at ht
        have hm : t ∈ [22] := by simpa using Array.mem_of_getElem? ht
        have hall : ([22].all fun u => !Tryz.prog.wantsStandIn u) = true := by kernel_rfl
        exact (show Tryz.prog.wantsStandIn t = false by simpa using List.all_eq_true.1 hall t hm)⟩)
    (by kernel_rfl)
#print axioms ladderEdges_holds
end Go.Proofs.YtkedfokcclpihaaGreatDoor
