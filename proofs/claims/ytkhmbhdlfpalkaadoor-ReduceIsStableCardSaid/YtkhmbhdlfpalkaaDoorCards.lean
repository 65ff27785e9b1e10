/-
  DERIVED. GIVEN WITH THE SEED: THE CARDS: each row of YtkhmbhdlfpalkaaDoorRows.lean that lists a variable, with what it lists TIED to the program's text (the seventh form; the later family's looks); each row that meets fmt, with fmt's text TOLD by the authors' own Lean function (tested against real Go, not proved from fmt's source: count such statements apart). THE CARD IS WHAT COUNTS. Prove the row's statement (the work); the ties are given (YtkhmbhdlfpalkaaDoorTie.lean); close each card by the builder's one call (the guide's Derived/Test/ToyasCard.lean, 'card_holds'). Laid BY PROGRAM, IN A SANDBOX (cutbox-door.mjs). By AI agents, Wed Nov 11 2026. No macro, syntax, notation, axiom, sorry.
-/
import Derived.Test.YtkhmbhdlfpalkaaDoorRows
import GoSem.ClaimSeven
namespace Go.Proofs.YtkhmbhdlfpalkaaDoor
namespace Rows

/-- THE TIED CARD OF 'busbarlaw15.ReduceIsStable'. -/
def reduceIsStableCard : Claim7 := { stood := { row := reduceIsStableRow, standIns := [], harness := (true, "31eaecb3f2d18afc6d2a9e03923884a47b31420e19a06e8be8ae01ea4df08c08"), looks := false }, kinds := [], alts := [], laidByText := true, laidKinds := [.data, .data, .data, .data], laidTests := true, laidLooks := .later }
def ReduceIsStableCardSaid : Prop := Claim7.holds Tryd.pinned (.plain (OpenSpec.ofChange reduceIsStableSpec)) reduceIsStableCard

/-- THE SECOND FORM's CARD OF 'busbarlaw15.ReduceIsStable'. -/
def reduceIsStableUptoCard : Claim7 := { stood := { row := reduceIsStableUptoRow, standIns := [], harness := (true, "31eaecb3f2d18afc6d2a9e03923884a47b31420e19a06e8be8ae01ea4df08c08"), looks := false }, kinds := [], alts := [], laidByText := true, laidKinds := [.data, .data, .data, .data], laidTests := true, laidLooks := .later }
def ReduceIsStableUptoCardSaid : Prop := Claim7.holds Tryd.pinned (.plain (OpenSpec.upto reduceIsStableSpec)) reduceIsStableUptoCard
end Rows
end Go.Proofs.YtkhmbhdlfpalkaaDoor
