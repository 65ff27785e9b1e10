/-
  DERIVED. GIVEN WITH THE SEED: THE PROGRAM's TIES (one call each: nine closed facts by the kernel) AND EACH ROW's TIE, after the 31st guide's Derived/Test/Toyas{Tie, Card}.lean. No idea stands in it: it is a product of the set-up. Laid BY PROGRAM, IN A SANDBOX (cutbox-door.mjs). By AI agents, Wed Nov 11 2026. No macro, syntax, notation, axiom, sorry.
-/
import Derived.Test.YtolggjmgfijjfaaGreatDoorRows
import Derived.LaidByTextLater
import Derived.SevenTiedAt
import Derived.LaidSub
import Derived.LaidOnce
namespace Go.Proofs.YtolggjmgfijjfaaGreatDoor
open Go
set_option maxRecDepth 100000
theorem seatTie1 : Tryz.prog.laidByTextLater [("busbar/codegen.loads", Rows.laid_busbar_codegen_loads), ("busbar/codegen.joins", Rows.laid_busbar_codegen_joins), ("busbar/codegen.pops", Rows.laid_busbar_codegen_pops), ("busbar/codegen.writes", Rows.laid_busbar_codegen_writes)] [.data, .data, .data, .data] true :=
  Program.laidByTextLater_by_one 31 8 7 (by kernel_rfl) (by kernel_rfl) (by kernel_rfl) (by kernel_rfl) (by kernel_rfl) (by kernel_rfl) (fun _ _ => by kernel_rfl)
theorem noOwnUnsafe : Tryz.pinned.checked.prog.headLifts.contains "ownunsafe" = false := by kernel_rfl
theorem tie : Tryz.prog.laidByTextLater [("busbar/codegen.loads", Rows.laid_busbar_codegen_loads), ("busbar/codegen.joins", Rows.laid_busbar_codegen_joins), ("busbar/codegen.pops", Rows.laid_busbar_codegen_pops), ("busbar/codegen.writes", Rows.laid_busbar_codegen_writes)] [.data, .data, .data, .data] true :=
  Program.laidByTextLater.sub seatTie1 ["busbar/codegen.loads", "busbar/codegen.joins", "busbar/codegen.pops", "busbar/codegen.writes"] (by kernel_rfl) (by kernel_rfl)
theorem codegenIsCorrect_row_tie : Rows.codegenIsCorrectRow.laidByTextAt .later Tryz.pinned [.data, .data, .data, .data] true :=
  OpenClaim.laidByTextAt_later rfl rfl tie noOwnUnsafe
theorem codegenIsCorrectUpto_row_tie : Rows.codegenIsCorrectUptoRow.laidByTextAt .later Tryz.pinned [.data, .data, .data, .data] true :=
  OpenClaim.laidByTextAt_later rfl rfl tie noOwnUnsafe
end Go.Proofs.YtolggjmgfijjfaaGreatDoor
