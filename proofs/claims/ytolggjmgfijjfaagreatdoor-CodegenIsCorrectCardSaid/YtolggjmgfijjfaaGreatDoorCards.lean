/-
  DERIVED. GIVEN WITH THE SEED: THE CARDS: each row of YtolggjmgfijjfaaGreatDoorRows.lean that lists a variable, with what it lists TIED to the program's text (the seventh form; the later family's looks); each row that meets fmt, with fmt's text TOLD by the authors' own Lean function (tested against real Go, not proved from fmt's source: count such statements apart). THE CARD IS WHAT COUNTS. Prove the row's statement (the work); the ties are given (YtolggjmgfijjfaaGreatDoorTie.lean); close each card by the builder's one call (the guide's Derived/Test/ToyasCard.lean, 'card_holds'). Laid BY PROGRAM, IN A SANDBOX (cutbox-door.mjs). By AI agents, Wed Nov 11 2026. No macro, syntax, notation, axiom, sorry.
-/
import Derived.Test.YtolggjmgfijjfaaGreatDoorRows
import GoSem.ClaimSeven
namespace Go.Proofs.YtolggjmgfijjfaaGreatDoor
namespace Rows

/-- THE TIED CARD OF 'busbarlaw17.CodegenIsCorrect'. -/
def codegenIsCorrectCard : Claim7 := { stood := { row := codegenIsCorrectRow, standIns := [], harness := (true, "d5654afec9d3b8eeda410634c21d115441617be4e93be7fdfb98563b41bca536"), looks := false }, kinds := [], alts := [], laidByText := true, laidKinds := [.data, .data, .data, .data], laidTests := true, laidLooks := .later }
def CodegenIsCorrectCardSaid : Prop := Claim7.holds Tryz.pinned (.plain (OpenSpec.ofChange codegenIsCorrectSpec)) codegenIsCorrectCard

/-- THE SECOND FORM's CARD OF 'busbarlaw17.CodegenIsCorrect'. -/
def codegenIsCorrectUptoCard : Claim7 := { stood := { row := codegenIsCorrectUptoRow, standIns := [], harness := (true, "d5654afec9d3b8eeda410634c21d115441617be4e93be7fdfb98563b41bca536"), looks := false }, kinds := [], alts := [], laidByText := true, laidKinds := [.data, .data, .data, .data], laidTests := true, laidLooks := .later }
def CodegenIsCorrectUptoCardSaid : Prop := Claim7.holds Tryz.pinned (.plain (OpenSpec.upto codegenIsCorrectSpec)) codegenIsCorrectUptoCard
end Rows
end Go.Proofs.YtolggjmgfijjfaaGreatDoor
