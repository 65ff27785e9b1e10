/-
  DERIVED. GIVEN WITH THE SEED: THE CARDS: each row of YtkhmbhdlfpalkaaGreatDoorRows.lean that lists a variable, with what it lists TIED to the program's text (the seventh form; the later family's looks); each row that meets fmt, with fmt's text TOLD by the authors' own Lean function (tested against real Go, not proved from fmt's source: count such statements apart). THE CARD IS WHAT COUNTS. Prove the row's statement (the work); the ties are given (YtkhmbhdlfpalkaaGreatDoorTie.lean); close each card by the builder's one call (the guide's Derived/Test/ToyasCard.lean, 'card_holds'). Laid BY PROGRAM, IN A SANDBOX (cutbox-door.mjs). By AI agents, Wed Nov 11 2026. No macro, syntax, notation, axiom, sorry.
-/
import Derived.Test.YtkhmbhdlfpalkaaGreatDoorRows
import GoSem.ClaimSeven
namespace Go.Proofs.YtkhmbhdlfpalkaaGreatDoor
namespace Rows

/-- THE TIED CARD OF 'busbarlaw15.ReduceInvertsExpand'. -/
def reduceInvertsExpandCard : Claim7 := { stood := { row := reduceInvertsExpandRow, standIns := [], harness := (true, "fa51d2fc9c713e8707651bc9db4ec58fec10df3b4701d9b6e133effc76dd8699"), looks := false }, kinds := [], alts := [], laidByText := true, laidKinds := [.data, .data, .data, .data], laidTests := true, laidLooks := .later }
def ReduceInvertsExpandCardSaid : Prop := Claim7.holds Tryz.pinned (.plain (OpenSpec.ofChange reduceInvertsExpandSpec)) reduceInvertsExpandCard

/-- THE SECOND FORM's CARD OF 'busbarlaw15.ReduceInvertsExpand'. -/
def reduceInvertsExpandUptoCard : Claim7 := { stood := { row := reduceInvertsExpandUptoRow, standIns := [], harness := (true, "fa51d2fc9c713e8707651bc9db4ec58fec10df3b4701d9b6e133effc76dd8699"), looks := false }, kinds := [], alts := [], laidByText := true, laidKinds := [.data, .data, .data, .data], laidTests := true, laidLooks := .later }
def ReduceInvertsExpandUptoCardSaid : Prop := Claim7.holds Tryz.pinned (.plain (OpenSpec.upto reduceInvertsExpandSpec)) reduceInvertsExpandUptoCard
end Rows
end Go.Proofs.YtkhmbhdlfpalkaaGreatDoor
