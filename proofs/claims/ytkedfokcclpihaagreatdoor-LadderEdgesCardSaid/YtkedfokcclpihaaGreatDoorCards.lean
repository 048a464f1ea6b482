/-
  DERIVED. GIVEN WITH THE SEED: THE CARDS: each row of YtkedfokcclpihaaGreatDoorRows.lean that lists a variable, with what it lists TIED to the program's text (the seventh form; the later family's looks); each row that meets fmt, with fmt's text TOLD by the authors' own Lean function (tested against real Go, not proved from fmt's source: count such statements apart). THE CARD IS WHAT COUNTS. Prove the row's statement (the work); the ties are given (YtkedfokcclpihaaGreatDoorTie.lean); close each card by the builder's one call (the guide's Derived/Test/ToyasCard.lean, 'card_holds'). Laid BY PROGRAM, IN A SANDBOX (cutbox-door.mjs). By AI agents, Wed Nov 11 2026. No macro, syntax, notation, axiom, sorry.
-/
import Derived.Test.YtkedfokcclpihaaGreatDoorRows
import GoSem.ClaimSeven
namespace Go.Proofs.YtkedfokcclpihaaGreatDoor
namespace Rows

/-- THE TIED CARD OF 'plantwrightkeep.LadderEdges'. -/
def ladderEdgesCard : Claim7 := { stood := { row := ladderEdgesRow, standIns := [], harness := (true, "3fbdd24160ae2b256029b3bee436a82a64adad1b01919843df81ca5904a0c76c"), looks := true }, kinds := [], alts := [], laidByText := true, laidKinds := [.data, .data, .data, .data, .pinned], laidTests := true, laidLooks := .later }
def LadderEdgesCardSaid : Prop := Claim7.holds Tryz.pinned (.plain (OpenSpec.ofChange ladderEdgesSpec)) ladderEdgesCard

/-- THE TIED CARD OF 'plantwrightkeep.WiresPrev'. -/
def wiresPrevCard : Claim7 := { stood := { row := wiresPrevRow, standIns := [], harness := (true, "3fbdd24160ae2b256029b3bee436a82a64adad1b01919843df81ca5904a0c76c"), looks := true }, kinds := [], alts := [], laidByText := true, laidKinds := [.data, .pinned], laidTests := true, laidLooks := .later }
def WiresPrevCardSaid : Prop := Claim7.holds Tryz.pinned (.plain (OpenSpec.ofChange wiresPrevSpec)) wiresPrevCard

/-- THE SECOND FORM's CARD OF 'plantwrightkeep.LadderEdges'. -/
def ladderEdgesUptoCard : Claim7 := { stood := { row := ladderEdgesUptoRow, standIns := [], harness := (true, "3fbdd24160ae2b256029b3bee436a82a64adad1b01919843df81ca5904a0c76c"), looks := true }, kinds := [], alts := [], laidByText := true, laidKinds := [.data, .data, .data, .data, .pinned], laidTests := true, laidLooks := .later }
def LadderEdgesUptoCardSaid : Prop := Claim7.holds Tryz.pinned (.plain (OpenSpec.upto ladderEdgesSpec)) ladderEdgesUptoCard

/-- THE SECOND FORM's CARD OF 'plantwrightkeep.WiresPrev'. -/
def wiresPrevUptoCard : Claim7 := { stood := { row := wiresPrevUptoRow, standIns := [], harness := (true, "3fbdd24160ae2b256029b3bee436a82a64adad1b01919843df81ca5904a0c76c"), looks := true }, kinds := [], alts := [], laidByText := true, laidKinds := [.data, .pinned], laidTests := true, laidLooks := .later }
def WiresPrevUptoCardSaid : Prop := Claim7.holds Tryz.pinned (.plain (OpenSpec.upto wiresPrevSpec)) wiresPrevUptoCard
end Rows
end Go.Proofs.YtkedfokcclpihaaGreatDoor
