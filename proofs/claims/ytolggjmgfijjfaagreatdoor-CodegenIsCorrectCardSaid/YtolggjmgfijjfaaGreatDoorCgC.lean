/- Texts of this proof, joined: what is of no program, and the walks of its functions -/
import Derived.Test.YtolggjmgfijjfaaGreatDoorCgB
import Derived.Test.YtolggjmgfijjfaaGreatDoorProg
set_option autoImplicit false
set_option linter.unusedVariables false
set_option linter.unusedSimpArgs false
set_option linter.unusedSectionVars false
set_option maxRecDepth 100000
/- Facts on the program that the walks use: types, fields, functions. -/
namespace Go.Proofs.YtolggjmgfijjfaaGreatDoor.Sep
open Go
theorem ti3 : TI Tryz.prog 3 (.int .i64 0) 1 8 := TI.of (by kernel_rfl)
theorem ta3 : TA Tryz.prog 3 false := ⟨_, Tryz.underlying3, rfl⟩
theorem ti31 : TI Tryz.prog 31 (.slice none 0 0) 1 24 := TI.of (by kernel_rfl)
theorem ta31 : TA Tryz.prog 31 false := ⟨_, Tryz.underlying31, rfl⟩
theorem ti33 : TI Tryz.prog 33 (.agg #[.int .i64 0, .int .i64 0, .slice none 0 0]) 3 40 := TI.of (by kernel_rfl)
theorem ta33 : TA Tryz.prog 33 true := ⟨_, Tryz.underlying33, rfl⟩
theorem ti4 : TI Tryz.prog 4 (.bool false) 1 1 := TI.of (by kernel_rfl)
theorem ti73 : TI Tryz.prog 73 (.agg #[.string (⟨#[]⟩ : ByteArray), .string (⟨#[]⟩ : ByteArray), .int .i64 0, .int .i64 0, .slice none 0 0]) 5 72 := TI.of (by kernel_rfl)
theorem ta73 : TA Tryz.prog 73 true := ⟨_, Tryz.underlying73, rfl⟩
theorem ti9 : TI Tryz.prog 9 (.string (⟨#[]⟩ : ByteArray)) 1 16 := TI.of (by kernel_rfl)
theorem ta9 : TA Tryz.prog 9 false := ⟨_, Tryz.underlying9, rfl⟩
theorem mixed : Tryz.prog.follows .mixedOrders = true := by kernel_rfl
theorem ti71 : TI Tryz.prog 71 (.agg #[.string (⟨#[]⟩ : ByteArray), .string (⟨#[]⟩ : ByteArray)]) 2 32 := TI.of (by kernel_rfl)
theorem ta71 : TA Tryz.prog 71 true := ⟨_, Tryz.underlying71, rfl⟩
theorem ti22 : TI Tryz.prog 22 (.slice none 0 0) 1 24 := TI.of (by kernel_rfl)
theorem ta22 : TA Tryz.prog 22 false := ⟨_, Tryz.underlying22, rfl⟩
theorem ti56 : TI Tryz.prog 56 (.agg #[.int .i64 0, .int .i64 0, .int .i64 0, .string (⟨#[]⟩ : ByteArray), .string (⟨#[]⟩ : ByteArray)]) 5 56 := TI.of (by kernel_rfl)
theorem ta56 : TA Tryz.prog 56 true := ⟨_, Tryz.underlying56, rfl⟩
theorem ta25 : TA Tryz.prog 25 true := ⟨_, Tryz.underlying25, rfl⟩
theorem ti25 : TI Tryz.prog 25 (.agg #[.string (⟨#[]⟩ : ByteArray), .slice none 0 0, .slice none 0 0, .string (⟨#[]⟩ : ByteArray)]) 4 80 := TI.of (by kernel_rfl)
theorem ta136 : TA Tryz.prog 136 false := ⟨_, Tryz.underlying136, rfl⟩
theorem ta164 : TA Tryz.prog 164 false := ⟨_, Tryz.underlying164, rfl⟩
theorem ta186 : TA Tryz.prog 186 false := ⟨_, Tryz.underlying186, rfl⟩
theorem ti136 : TI Tryz.prog 136 (.map none) 1 8 := TI.of (by kernel_rfl)
theorem ti186 : TI Tryz.prog 186 (.nilFunc) 1 8 := TI.of (by kernel_rfl)
theorem ta105 : TA Tryz.prog 105 false := ⟨_, Tryz.underlying105, rfl⟩
theorem ti105 : TI Tryz.prog 105 (.slice none 0 0) 1 24 := TI.of (by kernel_rfl)
theorem ta4 : TA Tryz.prog 4 false := ⟨_, Tryz.underlying4, rfl⟩
theorem ti49 : TI Tryz.prog 49 (.agg #[.int .i64 0, .int .i64 0, .int .i64 0, .int .i64 0]) 4 32 := TI.of (by kernel_rfl)
theorem ti28 : TI Tryz.prog 28 (.agg #[.slice none 0 0, .slice none 0 0, .slice none 0 0]) 3 72 := TI.of (by kernel_rfl)
theorem ti26 : TI Tryz.prog 26 (.slice none 0 0) 1 24 := TI.of (by kernel_rfl)
theorem ta26 : TA Tryz.prog 26 false := ⟨_, Tryz.underlying26, rfl⟩
theorem ta28 : TA Tryz.prog 28 true := ⟨_, Tryz.underlying28, rfl⟩
theorem ti178 : TI Tryz.prog 178 (.agg #[.slice none 0 0, .slice none 0 0, .slice none 0 0]) 3 72 := TI.of (by kernel_rfl)
theorem ti129 : TI Tryz.prog 129 (.agg #[.slice none 0 0, .int .i64 0, .int .i64 0]) 3 40 := TI.of (by kernel_rfl)
theorem ti47 : TI Tryz.prog 47 (.agg #[.int .i64 0, .int .i64 0]) 2 16 := TI.of (by kernel_rfl)
theorem ta47 : TA Tryz.prog 47 true := ⟨_, Tryz.underlying47, rfl⟩
theorem ti90 : TI Tryz.prog 90 (.pointer none) 1 8 := TI.of (by kernel_rfl)
theorem ta90 : TA Tryz.prog 90 false := ⟨_, Tryz.underlying90, rfl⟩
theorem ti39 : TI Tryz.prog 39 (.slice none 0 0) 1 24 := TI.of (by kernel_rfl)
theorem ta39 : TA Tryz.prog 39 false := ⟨_, Tryz.underlying39, rfl⟩
theorem ta49 : TA Tryz.prog 49 true := ⟨_, Tryz.underlying49, rfl⟩
theorem ti97 : TI Tryz.prog 97 (.nilFunc) 1 8 := TI.of (by kernel_rfl)
theorem ti96 : TI Tryz.prog 96 (.agg #[.slice none 0 0, .slice none 0 0, .slice none 0 0, .slice none 0 0, .slice none 0 0, .int .i64 0, .bool false, .pointer none, .bool false, .int .i64 0]) 10 160 := TI.of (by kernel_rfl)
theorem ti85 : TI Tryz.prog 85 (.slice none 0 0) 1 24 := TI.of (by kernel_rfl)
theorem ta85 : TA Tryz.prog 85 false := ⟨_, Tryz.underlying85, rfl⟩
theorem ti123 : TI Tryz.prog 123 (.agg #[.int .i64 0, .int .i64 0]) 2 16 := TI.of (by kernel_rfl)
theorem ti87 : TI Tryz.prog 87 (.agg #[.string (⟨#[]⟩ : ByteArray), .slice none 0 0, .slice none 0 0, .string (⟨#[]⟩ : ByteArray), .slice none 0 0, .slice none 0 0]) 6 128 := TI.of (by kernel_rfl)
theorem ta126 : TA Tryz.prog 126 false := ⟨_, Tryz.underlying126, rfl⟩
theorem ti126 : TI Tryz.prog 126 (.nilFunc) 1 8 := TI.of (by kernel_rfl)
theorem ta58 : TA Tryz.prog 58 true := ⟨_, Tryz.underlying58, rfl⟩
theorem ti58 : TI Tryz.prog 58 (.agg #[.int .i64 0, .int .i64 0, .int .i64 0, .int .i64 0]) 4 32 := TI.of (by kernel_rfl)
theorem ti23 : TI Tryz.prog 23 (.slice none 0 0) 1 24 := TI.of (by kernel_rfl)
theorem ta23 : TA Tryz.prog 23 false := ⟨_, Tryz.underlying23, rfl⟩
theorem ti104 : TI Tryz.prog 104 (.agg #[.int .i64 0, .int .i64 0, .int .i64 0]) 3 24 := TI.of (by kernel_rfl)
theorem ta104 : TA Tryz.prog 104 true := ⟨_, Tryz.underlying104, rfl⟩
theorem ta66 : TA Tryz.prog 66 true := ⟨_, Tryz.underlying66, rfl⟩
theorem ti66 : TI Tryz.prog 66 (.agg #[.int .i64 0, .int .i64 0, .int .i64 0, .slice none 0 0]) 4 48 := TI.of (by kernel_rfl)
theorem ti64 : TI Tryz.prog 64 (.slice none 0 0) 1 24 := TI.of (by kernel_rfl)
theorem ta64 : TA Tryz.prog 64 false := ⟨_, Tryz.underlying64, rfl⟩
theorem ti60 : TI Tryz.prog 60 (.agg #[.int .i64 0, .int .i64 0, .int .i64 0, .int .i64 0, .slice none 0 0]) 5 56 := TI.of (by kernel_rfl)
theorem ta60 : TA Tryz.prog 60 true := ⟨_, Tryz.underlying60, rfl⟩
theorem tf33_0 : TF Tryz.prog 33 0 0 := TF.of Tryz.underlying33 rfl rfl ti3 (by decide)
theorem tf33_1 : TF Tryz.prog 33 1 1 := TF.of Tryz.underlying33 rfl rfl ti3 (by decide)
theorem tf33_2 : TF Tryz.prog 33 2 2 := TF.of Tryz.underlying33 rfl rfl ti31 (by decide)
theorem cb49 : Callable Tryz.prog 49 := ⟨_, Tryz.func49, by kernel_rfl, rfl⟩
theorem cb81 : Callable Tryz.prog 81 := ⟨_, Tryz.func81, by kernel_rfl, rfl⟩
theorem tp33 : TP Tryz.prog 33 [(0, 1), (1, 1), (2, 1)] := ⟨_, Tryz.underlying33, fun w => by kernel_rfl⟩
theorem cb83 : Callable Tryz.prog 83 := ⟨_, Tryz.func83, by kernel_rfl, rfl⟩
theorem cb82 : Callable Tryz.prog 82 := ⟨_, Tryz.func82, by kernel_rfl, rfl⟩
theorem cb54 : Callable Tryz.prog 54 := ⟨_, Tryz.func54, by kernel_rfl, rfl⟩
theorem cb50 : Callable Tryz.prog 50 := ⟨_, Tryz.func50, by kernel_rfl, rfl⟩
theorem tf73_0 : TF Tryz.prog 73 0 0 := TF.of Tryz.underlying73 rfl rfl ti71 (by decide)
theorem pe71 : PE Tryz.prog 71 := ⟨_, _, _, Tryz.underlying71, rfl, by decide, by decide, rfl, rfl, Tryz.underlying9, Tryz.underlying9, Tryz.stoodInHeld71, Tryz.eqGuardType71⟩
theorem cb42 : Callable Tryz.prog 42 := ⟨_, Tryz.func42, by kernel_rfl, rfl⟩
theorem cb41 : Callable Tryz.prog 41 := ⟨_, Tryz.func41, by kernel_rfl, rfl⟩
theorem tf73_1 : TF Tryz.prog 73 1 2 := TF.of Tryz.underlying73 rfl rfl ti33 (by decide)
theorem cb43 : Callable Tryz.prog 43 := ⟨_, Tryz.func43, by kernel_rfl, rfl⟩
theorem cb44 : Callable Tryz.prog 44 := ⟨_, Tryz.func44, by kernel_rfl, rfl⟩
theorem tf71_1 : TF Tryz.prog 71 1 1 := TF.of Tryz.underlying71 rfl rfl ti9 (by decide)
theorem tf71_0 : TF Tryz.prog 71 0 0 := TF.of Tryz.underlying71 rfl rfl ti9 (by decide)
theorem tp71 : TP Tryz.prog 71 [(0, 1), (1, 1)] := ⟨_, Tryz.underlying71, fun w => by kernel_rfl⟩
theorem tp73 : TP Tryz.prog 73 [(0, 2), (2, 3)] := ⟨_, Tryz.underlying73, fun w => by kernel_rfl⟩
theorem tf25_1 : TF Tryz.prog 25 1 1 := TF.of Tryz.underlying25 rfl rfl ti22 (by decide)
theorem tf56_2 : TF Tryz.prog 56 2 3 := TF.of Tryz.underlying56 rfl rfl ti9 (by decide)
theorem tf56_3 : TF Tryz.prog 56 3 4 := TF.of Tryz.underlying56 rfl rfl ti9 (by decide)
theorem cb98 : Callable Tryz.prog 98 := ⟨_, Tryz.func98, by kernel_rfl, rfl⟩
theorem cb97 : Callable Tryz.prog 97 := ⟨_, Tryz.func97, by kernel_rfl, rfl⟩
theorem cb124 : Callable Tryz.prog 124 := ⟨_, Tryz.func124, by kernel_rfl, rfl⟩
theorem cb103 : Callable Tryz.prog 103 := ⟨_, Tryz.func103, by kernel_rfl, rfl⟩
theorem cb68 : Callable Tryz.prog 68 := ⟨_, Tryz.func68, by kernel_rfl, rfl⟩
theorem cb101 : Callable Tryz.prog 101 := ⟨_, Tryz.func101, by kernel_rfl, rfl⟩
theorem cb100 : Callable Tryz.prog 100 := ⟨_, Tryz.func100, by kernel_rfl, rfl⟩
theorem cb71 : Callable Tryz.prog 71 := ⟨_, Tryz.func71, by kernel_rfl, rfl⟩
theorem cb102 : Callable Tryz.prog 102 := ⟨_, Tryz.func102, by kernel_rfl, rfl⟩
theorem cb122 : Callable Tryz.prog 122 := ⟨_, Tryz.func122, by kernel_rfl, rfl⟩
theorem cb123 : Callable Tryz.prog 123 := ⟨_, Tryz.func123, by kernel_rfl, rfl⟩
theorem cb67 : Callable Tryz.prog 67 := ⟨_, Tryz.func67, by kernel_rfl, rfl⟩
theorem cb78 : Callable Tryz.prog 78 := ⟨_, Tryz.func78, by kernel_rfl, rfl⟩
theorem cb76 : Callable Tryz.prog 76 := ⟨_, Tryz.func76, by kernel_rfl, rfl⟩
theorem cb99 : Callable Tryz.prog 99 := ⟨_, Tryz.func99, by kernel_rfl, rfl⟩
theorem cb77 : Callable Tryz.prog 77 := ⟨_, Tryz.func77, by kernel_rfl, rfl⟩
theorem cb74 : Callable Tryz.prog 74 := ⟨_, Tryz.func74, by kernel_rfl, rfl⟩
theorem cb75 : Callable Tryz.prog 75 := ⟨_, Tryz.func75, by kernel_rfl, rfl⟩
theorem cb72 : Callable Tryz.prog 72 := ⟨_, Tryz.func72, by kernel_rfl, rfl⟩
theorem cb96 : Callable Tryz.prog 96 := ⟨_, Tryz.func96, by kernel_rfl, rfl⟩
theorem cb70 : Callable Tryz.prog 70 := ⟨_, Tryz.func70, by kernel_rfl, rfl⟩
theorem cb69 : Callable Tryz.prog 69 := ⟨_, Tryz.func69, by kernel_rfl, rfl⟩
theorem cb73 : Callable Tryz.prog 73 := ⟨_, Tryz.func73, by kernel_rfl, rfl⟩
theorem cb39 : Callable Tryz.prog 39 := ⟨_, Tryz.func39, by kernel_rfl, rfl⟩
theorem cb40 : Callable Tryz.prog 40 := ⟨_, Tryz.func40, by kernel_rfl, rfl⟩
theorem cb48 : Callable Tryz.prog 48 := ⟨_, Tryz.func48, by kernel_rfl, rfl⟩
theorem cb47 : Callable Tryz.prog 47 := ⟨_, Tryz.func47, by kernel_rfl, rfl⟩
theorem cb46 : Callable Tryz.prog 46 := ⟨_, Tryz.func46, by kernel_rfl, rfl⟩
theorem cb45 : Callable Tryz.prog 45 := ⟨_, Tryz.func45, by kernel_rfl, rfl⟩
theorem cb22 : Callable Tryz.prog 22 := ⟨_, Tryz.func22, by kernel_rfl, rfl⟩
theorem cb19 : Callable Tryz.prog 19 := ⟨_, Tryz.func19, by kernel_rfl, rfl⟩
theorem cb20 : Callable Tryz.prog 20 := ⟨_, Tryz.func20, by kernel_rfl, rfl⟩
theorem cb21 : Callable Tryz.prog 21 := ⟨_, Tryz.func21, by kernel_rfl, rfl⟩
theorem tf56_0 : TF Tryz.prog 56 0 0 := TF.of Tryz.underlying56 rfl rfl ti3 (by decide)
theorem cb114 : Callable Tryz.prog 114 := ⟨_, Tryz.func114, by kernel_rfl, rfl⟩
theorem tf28_0 : TF Tryz.prog 28 0 0 := TF.of Tryz.underlying28 rfl rfl ti26 (by decide)
theorem cb34 : Callable Tryz.prog 34 := ⟨_, Tryz.func34, by kernel_rfl, rfl⟩
theorem tf28_1 : TF Tryz.prog 28 1 1 := TF.of Tryz.underlying28 rfl rfl ti26 (by decide)
theorem tf28_2 : TF Tryz.prog 28 2 2 := TF.of Tryz.underlying28 rfl rfl ti26 (by decide)
theorem tp28 : TP Tryz.prog 28 [(0, 1), (1, 1), (2, 1)] := ⟨_, Tryz.underlying28, fun w => by kernel_rfl⟩
theorem tf47_0 : TF Tryz.prog 47 0 0 := TF.of Tryz.underlying47 rfl rfl ti3 (by decide)
theorem tf47_1 : TF Tryz.prog 47 1 1 := TF.of Tryz.underlying47 rfl rfl ti3 (by decide)
theorem cb85 : Callable Tryz.prog 85 := ⟨_, Tryz.func85, by kernel_rfl, rfl⟩
theorem tp129 : TP Tryz.prog 129 [(0, 1), (1, 1), (2, 1)] := ⟨_, Tryz.underlying129, fun w => by kernel_rfl⟩
theorem tf129_0 : TF Tryz.prog 129 0 0 := TF.of Tryz.underlying129 rfl rfl ti26 (by decide)
theorem tf129_1 : TF Tryz.prog 129 1 1 := TF.of Tryz.underlying129 rfl rfl ti3 (by decide)
theorem tf129_2 : TF Tryz.prog 129 2 2 := TF.of Tryz.underlying129 rfl rfl ti3 (by decide)
theorem tf96_1 : TF Tryz.prog 96 1 1 := TF.of Tryz.underlying96 rfl rfl ti26 (by decide)
theorem tf96_2 : TF Tryz.prog 96 2 2 := TF.of Tryz.underlying96 rfl rfl ti28 (by decide)
theorem tf49_1 : TF Tryz.prog 49 1 1 := TF.of Tryz.underlying49 rfl rfl ti47 (by decide)
theorem cb84 : Callable Tryz.prog 84 := ⟨_, Tryz.func84, by kernel_rfl, rfl⟩
theorem tf49_0 : TF Tryz.prog 49 0 0 := TF.of Tryz.underlying49 rfl rfl ti3 (by decide)
theorem tf96_4 : TF Tryz.prog 96 4 6 := TF.of Tryz.underlying96 rfl rfl ti4 (by decide)
theorem tf49_2 : TF Tryz.prog 49 2 3 := TF.of Tryz.underlying49 rfl rfl ti3 (by decide)
theorem tf96_5 : TF Tryz.prog 96 5 7 := TF.of Tryz.underlying96 rfl rfl ti90 (by decide)
theorem cb86 : Callable Tryz.prog 86 := ⟨_, Tryz.func86, by kernel_rfl, rfl⟩
theorem cb87 : Callable Tryz.prog 87 := ⟨_, Tryz.func87, by kernel_rfl, rfl⟩
theorem tf96_6 : TF Tryz.prog 96 6 8 := TF.of Tryz.underlying96 rfl rfl ti4 (by decide)
theorem tf96_3 : TF Tryz.prog 96 3 5 := TF.of Tryz.underlying96 rfl rfl ti3 (by decide)
theorem tf96_0 : TF Tryz.prog 96 0 0 := TF.of Tryz.underlying96 rfl rfl ti39 (by decide)
theorem cb36 : Callable Tryz.prog 36 := ⟨_, Tryz.func36, by kernel_rfl, rfl⟩
theorem cb56 : Callable Tryz.prog 56 := ⟨_, Tryz.func56, by kernel_rfl, rfl⟩
theorem cb57 : Callable Tryz.prog 57 := ⟨_, Tryz.func57, by kernel_rfl, rfl⟩
theorem cb58 : Callable Tryz.prog 58 := ⟨_, Tryz.func58, by kernel_rfl, rfl⟩
theorem cb59 : Callable Tryz.prog 59 := ⟨_, Tryz.func59, by kernel_rfl, rfl⟩
theorem cb62 : Callable Tryz.prog 62 := ⟨_, Tryz.func62, by kernel_rfl, rfl⟩
theorem cb37 : Callable Tryz.prog 37 := ⟨_, Tryz.func37, by kernel_rfl, rfl⟩
theorem cb35 : Callable Tryz.prog 35 := ⟨_, Tryz.func35, by kernel_rfl, rfl⟩
theorem cb32 : Callable Tryz.prog 32 := ⟨_, Tryz.func32, by kernel_rfl, rfl⟩
theorem cb33 : Callable Tryz.prog 33 := ⟨_, Tryz.func33, by kernel_rfl, rfl⟩
theorem tp96 : TP Tryz.prog 96 [(0, 1), (1, 1), (2, 3), (5, 1), (6, 1), (7, 1), (8, 1), (9, 1)] := ⟨_, Tryz.underlying96, fun w => by kernel_rfl⟩
theorem tf87_2 : TF Tryz.prog 87 2 5 := TF.of Tryz.underlying87 rfl rfl ti39 (by decide)
theorem tf87_0 : TF Tryz.prog 87 0 0 := TF.of Tryz.underlying87 rfl rfl ti25 (by decide)
theorem tf56_1 : TF Tryz.prog 56 1 1 := TF.of Tryz.underlying56 rfl rfl ti47 (by decide)
theorem tf87_1 : TF Tryz.prog 87 1 4 := TF.of Tryz.underlying87 rfl rfl ti85 (by decide)
theorem tp49 : TP Tryz.prog 49 [(0, 1), (1, 2), (3, 1)] := ⟨_, Tryz.underlying49, fun w => by kernel_rfl⟩
theorem cb52 : Callable Tryz.prog 52 := ⟨_, Tryz.func52, by kernel_rfl, rfl⟩
theorem cb30 : Callable Tryz.prog 30 := ⟨_, Tryz.func30, by kernel_rfl, rfl⟩
theorem cb29 : Callable Tryz.prog 29 := ⟨_, Tryz.func29, by kernel_rfl, rfl⟩
theorem cb28 : Callable Tryz.prog 28 := ⟨_, Tryz.func28, by kernel_rfl, rfl⟩
theorem cb51 : Callable Tryz.prog 51 := ⟨_, Tryz.func51, by kernel_rfl, rfl⟩
theorem cb26 : Callable Tryz.prog 26 := ⟨_, Tryz.func26, by kernel_rfl, rfl⟩
theorem cb27 : Callable Tryz.prog 27 := ⟨_, Tryz.func27, by kernel_rfl, rfl⟩
theorem tp87 : TP Tryz.prog 87 [(0, 4), (4, 1), (5, 1)] := ⟨_, Tryz.underlying87, fun w => by kernel_rfl⟩
theorem cb31 : Callable Tryz.prog 31 := ⟨_, Tryz.func31, by kernel_rfl, rfl⟩
theorem cb53 : Callable Tryz.prog 53 := ⟨_, Tryz.func53, by kernel_rfl, rfl⟩
theorem cb55 : Callable Tryz.prog 55 := ⟨_, Tryz.func55, by kernel_rfl, rfl⟩
theorem cb23 : Callable Tryz.prog 23 := ⟨_, Tryz.func23, by kernel_rfl, rfl⟩
theorem cb24 : Callable Tryz.prog 24 := ⟨_, Tryz.func24, by kernel_rfl, rfl⟩
theorem cb25 : Callable Tryz.prog 25 := ⟨_, Tryz.func25, by kernel_rfl, rfl⟩
theorem tf58_3 : TF Tryz.prog 58 3 3 := TF.of Tryz.underlying58 rfl rfl ti3 (by decide)
theorem cb116 : Callable Tryz.prog 116 := ⟨_, Tryz.func116, by kernel_rfl, rfl⟩
theorem tf58_0 : TF Tryz.prog 58 0 0 := TF.of Tryz.underlying58 rfl rfl ti3 (by decide)
theorem tf58_1 : TF Tryz.prog 58 1 1 := TF.of Tryz.underlying58 rfl rfl ti3 (by decide)
theorem tf58_2 : TF Tryz.prog 58 2 2 := TF.of Tryz.underlying58 rfl rfl ti3 (by decide)
theorem cb133 : Callable Tryz.prog 133 := ⟨_, Tryz.func133, by kernel_rfl, rfl⟩
theorem cb131 : Callable Tryz.prog 131 := ⟨_, Tryz.func131, by kernel_rfl, rfl⟩
theorem tf66_0 : TF Tryz.prog 66 0 0 := TF.of Tryz.underlying66 rfl rfl ti3 (by decide)
theorem tf66_1 : TF Tryz.prog 66 1 1 := TF.of Tryz.underlying66 rfl rfl ti3 (by decide)
theorem tf66_2 : TF Tryz.prog 66 2 2 := TF.of Tryz.underlying66 rfl rfl ti3 (by decide)
theorem tp58 : TP Tryz.prog 58 [(0, 1), (1, 1), (2, 1), (3, 1)] := ⟨_, Tryz.underlying58, fun w => by kernel_rfl⟩
theorem cb130 : Callable Tryz.prog 130 := ⟨_, Tryz.func130, by kernel_rfl, rfl⟩
theorem tf25_0 : TF Tryz.prog 25 0 0 := TF.of Tryz.underlying25 rfl rfl ti9 (by decide)
theorem cb119 : Callable Tryz.prog 119 := ⟨_, Tryz.func119, by kernel_rfl, rfl⟩
theorem cb117 : Callable Tryz.prog 117 := ⟨_, Tryz.func117, by kernel_rfl, rfl⟩
theorem tf25_2 : TF Tryz.prog 25 2 2 := TF.of Tryz.underlying25 rfl rfl ti23 (by decide)
theorem tf104_0 : TF Tryz.prog 104 0 0 := TF.of Tryz.underlying104 rfl rfl ti3 (by decide)
theorem tf104_1 : TF Tryz.prog 104 1 1 := TF.of Tryz.underlying104 rfl rfl ti47 (by decide)
theorem tf25_3 : TF Tryz.prog 25 3 3 := TF.of Tryz.underlying25 rfl rfl ti9 (by decide)
theorem cb89 : Callable Tryz.prog 89 := ⟨_, Tryz.func89, by kernel_rfl, rfl⟩
theorem cb90 : Callable Tryz.prog 90 := ⟨_, Tryz.func90, by kernel_rfl, rfl⟩
theorem tf66_3 : TF Tryz.prog 66 3 3 := TF.of Tryz.underlying66 rfl rfl ti64 (by decide)
theorem cb91 : Callable Tryz.prog 91 := ⟨_, Tryz.func91, by kernel_rfl, rfl⟩
theorem tp56 : TP Tryz.prog 56 [(0, 1), (1, 2), (3, 1), (4, 1)] := ⟨_, Tryz.underlying56, fun w => by kernel_rfl⟩
theorem tp47 : TP Tryz.prog 47 [(0, 1), (1, 1)] := ⟨_, Tryz.underlying47, fun w => by kernel_rfl⟩
theorem tp104 : TP Tryz.prog 104 [(0, 1), (1, 2)] := ⟨_, Tryz.underlying104, fun w => by kernel_rfl⟩
theorem tp25 : TP Tryz.prog 25 [(0, 1), (1, 1), (2, 1), (3, 1)] := ⟨_, Tryz.underlying25, fun w => by kernel_rfl⟩
theorem cb95 : Callable Tryz.prog 95 := ⟨_, Tryz.func95, by kernel_rfl, rfl⟩
theorem ie49 : IE Tryz.prog 49 := ⟨_, _, _, _, _, _, _, 2, _, _, Tryz.underlying49, rfl, ⟨by decide, by decide, by decide⟩, ⟨rfl, rfl, rfl⟩, Tryz.underlying3, Tryz.underlying47, Tryz.underlying3, rfl, ⟨by decide, by decide⟩, ⟨rfl, rfl⟩, Tryz.underlying3, Tryz.underlying3, Tryz.stoodInHeld49, Tryz.stoodInHeld47, Tryz.eqGuardType49, ti47, rfl⟩
theorem cb121 : Callable Tryz.prog 121 := ⟨_, Tryz.func121, by kernel_rfl, rfl⟩
theorem cb6 : Callable Tryz.prog 6 := ⟨_, Tryz.func6, by kernel_rfl, rfl⟩
theorem cb94 : Callable Tryz.prog 94 := ⟨_, Tryz.func94, by kernel_rfl, rfl⟩
theorem cb8 : Callable Tryz.prog 8 := ⟨_, Tryz.func8, by kernel_rfl, rfl⟩
theorem cb63 : Callable Tryz.prog 63 := ⟨_, Tryz.func63, by kernel_rfl, rfl⟩
theorem tp60 : TP Tryz.prog 60 [(0, 4), (4, 1)] := ⟨_, Tryz.underlying60, fun w => by kernel_rfl⟩
theorem tf60_0 : TF Tryz.prog 60 0 0 := TF.of Tryz.underlying60 rfl rfl ti58 (by decide)
theorem cb64 : Callable Tryz.prog 64 := ⟨_, Tryz.func64, by kernel_rfl, rfl⟩
theorem cb65 : Callable Tryz.prog 65 := ⟨_, Tryz.func65, by kernel_rfl, rfl⟩
theorem tf60_1 : TF Tryz.prog 60 1 4 := TF.of Tryz.underlying60 rfl rfl ti39 (by decide)
theorem cb66 : Callable Tryz.prog 66 := ⟨_, Tryz.func66, by kernel_rfl, rfl⟩
theorem cb38 : Callable Tryz.prog 38 := ⟨_, Tryz.func38, by kernel_rfl, rfl⟩
theorem cb17 : Callable Tryz.prog 17 := ⟨_, Tryz.func17, by kernel_rfl, rfl⟩
theorem tp66 : TP Tryz.prog 66 [(0, 1), (1, 1), (2, 1), (3, 1)] := ⟨_, Tryz.underlying66, fun w => by kernel_rfl⟩
theorem cb16 : Callable Tryz.prog 16 := ⟨_, Tryz.func16, by kernel_rfl, rfl⟩
theorem cb18 : Callable Tryz.prog 18 := ⟨_, Tryz.func18, by kernel_rfl, rfl⟩
theorem cb4 : Callable Tryz.prog 4 := ⟨_, Tryz.func4, by kernel_rfl, rfl⟩
theorem cb5 : Callable Tryz.prog 5 := ⟨_, Tryz.func5, by kernel_rfl, rfl⟩
theorem cb7 : Callable Tryz.prog 7 := ⟨_, Tryz.func7, by kernel_rfl, rfl⟩
theorem cb9 : Callable Tryz.prog 9 := ⟨_, Tryz.func9, by kernel_rfl, rfl⟩
theorem cb10 : Callable Tryz.prog 10 := ⟨_, Tryz.func10, by kernel_rfl, rfl⟩
theorem cb11 : Callable Tryz.prog 11 := ⟨_, Tryz.func11, by kernel_rfl, rfl⟩
theorem cb12 : Callable Tryz.prog 12 := ⟨_, Tryz.func12, by kernel_rfl, rfl⟩
theorem cb13 : Callable Tryz.prog 13 := ⟨_, Tryz.func13, by kernel_rfl, rfl⟩
theorem cb15 : Callable Tryz.prog 15 := ⟨_, Tryz.func15, by kernel_rfl, rfl⟩
theorem tf1_28_2 : TF1 Tryz.prog 28 2 2 := ⟨_, _, Tryz.underlying28, rfl, rfl, ta26⟩
theorem cb14 : Callable Tryz.prog 14 := ⟨_, Tryz.func14, by kernel_rfl, rfl⟩
end Go.Proofs.YtolggjmgfijjfaaGreatDoor.Sep

/- A walk, printed by gen.py out of hints. -/
namespace Go.Proofs.YtolggjmgfijjfaaGreatDoor.Sep
open Go
variable {μ : Prop}
theorem example17W   : Spec μ Tryz.prog 17 #[] [] fun v Δ => ∃ A1 c1 A2 c2, v = .agg [.string (⟨#[]⟩ : ByteArray), .slice A1 2 c1, .slice A2 1 c2, .string (⟨#[]⟩ : ByteArray)].toArray ∧ Δ = [rd kContact A1 c1 ex17, rd kCoil A2 c2 co17] := by
 refine Spec.of_body (n := 9) Tryz.func17 rfl rfl rfl fun w0 S0 O0 => ?_
 show WC _ _ _ _ _ _ [] []
 refine WC.seq ?_
 refine WC.region ?_
 refine WL.loud (.nil) (Ld.alloc ti25 rfl) trivial rfl ?_
 rintro _ _ ⟨b_1, rfl, rfl⟩
 refine WL.nil ?_
 refine WX.next ?_
 refine WC.seq ?_
 refine WC.region ?_
 refine WL.quiet (Qt.build tp56 ti56 rfl rfl rfl) rfl rfl ?_
 refine WL.quiet (Qt.build tp47 ti47 rfl rfl rfl) rfl rfl ?_
 refine WL.quiet (Qt.build tp56 ti56 rfl rfl rfl) rfl rfl ?_
 refine WL.loud (.nil) (Ld.buildSlice (zs := [.int .i64 0, .int .i64 0, .int .i64 0, .string (⟨#[]⟩ : ByteArray), .string (⟨#[]⟩ : ByteArray), .int .i64 0, .int .i64 0, .int .i64 0, .string (⟨#[]⟩ : ByteArray), .string (⟨#[]⟩ : ByteArray)]) Tryz.underlying22 ti56 rfl rfl (by kernel_rfl) rfl rfl) trivial rfl ?_
 rintro _ _ ⟨b_2, rfl, rfl⟩
 refine WL.turn (.take 0 rfl (.nil)) (blk_row (e := kContact) (U := []) ex17 (fun F hF => nomatch hF) (fun S w h => reps_ex17) (by decide)) ?_
 rintro _ rfl
 refine WL.turn (.take 0 rfl (.nil)) (freeze_row) ?_
 rintro _ rfl
 refine WL.quiet (Qt.build tp47 ti47 rfl rfl rfl) rfl rfl ?_
 refine WL.quiet (Qt.build tp104 ti104 rfl rfl rfl) rfl rfl ?_
 refine WL.loud (.nil) (Ld.buildSlice (zs := [.int .i64 0, .int .i64 0, .int .i64 0]) Tryz.underlying23 ti104 rfl rfl (by kernel_rfl) rfl rfl) trivial rfl ?_
 rintro _ _ ⟨b_3, rfl, rfl⟩
 refine WL.turn (.take 0 rfl (.nil)) (blk_row (e := kCoil) (U := []) co17 (fun F hF => nomatch hF) (fun S w h => reps_co17) (by decide)) ?_
 rintro _ rfl
 refine WL.turn (.take 0 rfl (.nil)) (freeze_row) ?_
 rintro _ rfl
 refine WL.quiet (Qt.build tp25 ti25 rfl rfl rfl) rfl rfl ?_
 refine WL.loud (.take 2 rfl (.nil)) (Ld.store ti25 rfl rfl rfl rfl rfl rfl) trivial rfl ?_
 rintro _ _ rfl
 refine WL.nil ?_
 refine WX.next ?_
 refine WC.ret ?_
 refine WX.retC 0 (.u 2 rfl (.u 1 rfl (.nil))) rfl rfl rfl ta25 ti25 rfl ?_
 exact ⟨(some ⟨b_2, 0, none⟩), 2, (some ⟨b_3, 0, none⟩), 1, rfl, rfl⟩

end Go.Proofs.YtolggjmgfijjfaaGreatDoor.Sep

/- A walk, printed by gen.py out of hints. -/
namespace Go.Proofs.YtolggjmgfijjfaaGreatDoor.Sep
open Go
variable {μ : Prop}
theorem sizes17 (p : Addr)  : Spec μ Tryz.prog 89 #[.agg [.int .i64 2, .int .i64 1, .int .i64 0, .slice (some p) 1 1].toArray] [] fun v Δ => v = .agg [.int .i64 2, .int .i64 1, .int .i64 0, .int .i64 0].toArray ∧ Δ = [] := by
 refine Spec.of_body (n := 10) Tryz.func89 rfl rfl rfl fun w0 S0 O0 => ?_
 show WC _ _ _ _ _ _ [(0, .agg [.int .i64 2, .int .i64 1, .int .i64 0, .slice (some p) 1 1].toArray)] []
 refine WC.seq ?_
 refine WC.region ?_
 refine WL.loud (.nil) (Ld.box rfl rfl) trivial rfl ?_
 rintro _ _ ⟨b_1, rfl, rfl⟩
 refine WL.loud (.nil) (Ld.alloc ti58 rfl) trivial rfl ?_
 rintro _ _ ⟨b_2, rfl, rfl⟩
 refine WL.nil ?_
 refine WX.next ?_
 refine WC.seq ?_
 refine WC.region ?_
 refine WL.quiet (Qt.fieldAddrB tf66_0 rfl) rfl rfl ?_
 refine WL.quiet (Qt.loadB 1 rfl ta3 rfl rfl) rfl rfl ?_
 refine WL.quiet (Qt.fieldAddrB tf66_1 rfl) rfl rfl ?_
 refine WL.quiet (Qt.loadB 1 rfl ta3 rfl rfl) rfl rfl ?_
 refine WL.quiet (Qt.fieldAddrB tf66_2 rfl) rfl rfl ?_
 refine WL.quiet (Qt.loadB 1 rfl ta3 rfl rfl) rfl rfl ?_
 refine WL.quiet (Qt.build tp58 ti58 rfl rfl rfl) rfl rfl ?_
 refine WL.loud (.take 0 rfl (.nil)) (Ld.store ti58 rfl rfl rfl rfl rfl rfl) trivial rfl ?_
 rintro _ _ rfl
 refine WL.nil ?_
 refine WX.next ?_
 refine WC.ret ?_
 refine WX.retC 0 (.nil) rfl rfl rfl ta58 ti58 rfl ?_
 exact ⟨rfl, rfl⟩

end Go.Proofs.YtolggjmgfijjfaaGreatDoor.Sep

/- A walk, printed by gen.py out of hints. -/
namespace Go.Proofs.YtolggjmgfijjfaaGreatDoor.Sep
open Go
variable {μ : Prop}
theorem withinW (a b : Int)  : Spec μ Tryz.prog 116 #[.int .i64 a, .int .i64 b] [] fun v Δ => v = .bool (decide (a ≥ 0 ∧ a ≤ b)) ∧ Δ = [] := by
 refine Spec.of_body (n := 12) Tryz.func116 rfl rfl rfl fun w0 S0 O0 => ?_
 show WC _ _ _ _ _ _ [(0, .int .i64 a), (1, .int .i64 b)] []
 refine WC.seq ?_
 refine WC.region ?_
 refine WL.quiet (Qt.assign rfl) rfl rfl ?_
 refine WL.nil ?_
 refine WX.next ?_
 refine WC.cut (fun _ : Unit => [(4, .bool (decide (((a : Int) ≥ 0) ∧ ((a : Int) ≤ b))))]) (fun _ => []) (fun _ => True) ?_ ?_
 ·
  refine WC.region ?_
  refine WL.quiet (Qt.move rfl) rfl rfl ?_
  refine WL.quiet (Qt.geq rfl rfl) rfl rfl ?_
  refine WL.quiet (Qt.move rfl) rfl rfl ?_
  refine WL.splitD 7 rfl rfl (fun hg_1 => ?_) (fun hg_1 => ?_)
  ·
   refine WL.quietG 2 true rfl 7 rfl rfl (Qt.move rfl) rfl ?_
   refine WL.quietG 2 true rfl 7 rfl rfl (Qt.move rfl) rfl ?_
   refine WL.quietG 2 true rfl 7 rfl rfl (Qt.leq rfl rfl) rfl ?_
   refine WL.quiet (Qt.pickT rfl rfl) rfl rfl ?_
   refine WL.quiet (Qt.assign rfl) rfl rfl ?_
   refine WL.nil ?_
   exact WX.cut () trivial ⟨(by rw [show decide (((a : Int) ≥ 0) ∧ ((a : Int) ≤ b)) = (decide ((a : Int) ≤ b)) from by first | (simp [hg_1]; done) | exact decide_eq_decide.2 (by omega) | exact decide_eq_true (by omega) | exact decide_eq_false (by omega) | (simp [hg_1] <;> omega)]; rfl), trivial⟩ (.nil)
  ·
   refine WL.skipG 2 true false rfl 7 rfl rfl rfl rfl ?_
   refine WL.skipG 2 true false rfl 7 rfl rfl rfl rfl ?_
   refine WL.skipG 2 true false rfl 7 rfl rfl rfl rfl ?_
   refine WL.quiet (Qt.pickF rfl rfl) rfl rfl ?_
   refine WL.quiet (Qt.assign rfl) rfl rfl ?_
   refine WL.nil ?_
   exact WX.cut () trivial ⟨(by rw [show decide (((a : Int) ≥ 0) ∧ ((a : Int) ≤ b)) = false from by first | (simp [hg_1]; done) | exact decide_eq_decide.2 (by omega) | exact decide_eq_true (by omega) | exact decide_eq_false (by omega) | (simp [hg_1] <;> omega)]; rfl), trivial⟩ (.nil)
 ·
  intro _ _
  show WC _ _ _ _ _ _ [(4, .bool (decide (((a : Int) ≥ 0) ∧ ((a : Int) ≤ b))))] []
  refine WC.ret ?_
  refine WX.ret1 (.nil) rfl rfl ?_
  exact ⟨rfl, rfl⟩

end Go.Proofs.YtolggjmgfijjfaaGreatDoor.Sep

/- A walk, printed by gen.py out of hints. -/
namespace Go.Proofs.YtolggjmgfijjfaaGreatDoor.Sep
open Go
variable {μ : Prop}
theorem checkSize17   : Spec μ Tryz.prog 90 #[.agg [.int .i64 2, .int .i64 1, .int .i64 0, .int .i64 0].toArray] [] fun v Δ => v = .int .i64 0 ∧ Δ = [] := by
 refine Spec.of_body (n := 25) Tryz.func90 rfl rfl rfl fun w0 S0 O0 => ?_
 show WC _ _ _ _ _ _ [(0, .agg [.int .i64 2, .int .i64 1, .int .i64 0, .int .i64 0].toArray)] []
 refine WC.seq ?_
 refine WC.region ?_
 refine WL.loud (.nil) (Ld.box rfl rfl) trivial rfl ?_
 rintro _ _ ⟨b_1, rfl, rfl⟩
 refine WL.quiet (Qt.assign rfl) rfl rfl ?_
 refine WL.nil ?_
 refine WX.next ?_
 refine WC.seq ?_
 refine WC.seq ?_
 refine WC.region ?_
 refine WL.quiet (Qt.fieldAddrB tf58_3 rfl) rfl rfl ?_
 refine WL.quiet (Qt.loadB 0 rfl ta3 rfl rfl) rfl rfl ?_
 refine WL.call (.nil) (Cl.func cb116 rfl) (withinW 0 16384) trivial rfl ?_
 rintro _ _ ⟨rfl, rfl⟩
 refine WL.quiet (Qt.not rfl) rfl rfl ?_
 refine WL.quiet (Qt.move rfl) rfl rfl ?_
 refine WL.quietG 4 false rfl 7 rfl rfl (Qt.fieldAddrB tf58_0 rfl) rfl ?_
 refine WL.quietG 4 false rfl 7 rfl rfl (Qt.loadB 0 rfl ta3 rfl rfl) rfl ?_
 refine WL.call (.nil) (Cl.func cb116 rfl) (withinW 2 256) ⟨7, rfl, rfl⟩ rfl ?_
 rintro _ _ ⟨rfl, rfl⟩
 refine WL.quietG 4 false rfl 7 rfl rfl (Qt.not rfl) rfl ?_
 refine WL.quiet (Qt.pickF rfl rfl) rfl rfl ?_
 refine WL.quiet (Qt.move rfl) rfl rfl ?_
 refine WL.quietG 10 false rfl 13 rfl rfl (Qt.fieldAddrB tf58_1 rfl) rfl ?_
 refine WL.quietG 10 false rfl 13 rfl rfl (Qt.loadB 0 rfl ta3 rfl rfl) rfl ?_
 refine WL.call (.nil) (Cl.func cb116 rfl) (withinW 1 256) ⟨13, rfl, rfl⟩ rfl ?_
 rintro _ _ ⟨rfl, rfl⟩
 refine WL.quietG 10 false rfl 13 rfl rfl (Qt.not rfl) rfl ?_
 refine WL.quiet (Qt.pickF rfl rfl) rfl rfl ?_
 refine WL.quiet (Qt.move rfl) rfl rfl ?_
 refine WL.quietG 16 false rfl 19 rfl rfl (Qt.fieldAddrB tf58_2 rfl) rfl ?_
 refine WL.quietG 16 false rfl 19 rfl rfl (Qt.loadB 0 rfl ta3 rfl rfl) rfl ?_
 refine WL.call (.nil) (Cl.func cb116 rfl) (withinW 0 256) ⟨19, rfl, rfl⟩ rfl ?_
 rintro _ _ ⟨rfl, rfl⟩
 refine WL.quietG 16 false rfl 19 rfl rfl (Qt.not rfl) rfl ?_
 refine WL.quiet (Qt.pickF rfl rfl) rfl rfl ?_
 refine WL.nil ?_
 refine WX.next ?_
 refine WC.no rfl ?_
 refine WC.skip ?_
 refine WX.next ?_
 refine WC.seq ?_
 refine WC.region ?_
 refine WL.quiet (Qt.assign rfl) rfl rfl ?_
 refine WL.nil ?_
 refine WX.next ?_
 refine WC.ret ?_
 refine WX.ret1 (.nil) rfl rfl ?_
 exact ⟨rfl, rfl⟩

end Go.Proofs.YtolggjmgfijjfaaGreatDoor.Sep

/- A walk, printed by gen.py out of hints. -/
namespace Go.Proofs.YtolggjmgfijjfaaGreatDoor.Sep
open Go
variable {μ : Prop}
theorem width17_0   : Spec μ Tryz.prog 133 #[.agg [.int .i64 2, .int .i64 1, .int .i64 0, .int .i64 0].toArray, .int .i64 0] [] fun v Δ => v = .int .i64 2 ∧ Δ = [] := by
 refine Spec.of_body (n := 18) Tryz.func133 rfl rfl rfl fun w0 S0 O0 => ?_
 show WC _ _ _ _ _ _ [(0, .agg [.int .i64 2, .int .i64 1, .int .i64 0, .int .i64 0].toArray), (1, .int .i64 0)] []
 refine WC.seq ?_
 refine WC.region ?_
 refine WL.loud (.nil) (Ld.box rfl rfl) trivial rfl ?_
 rintro _ _ ⟨b_1, rfl, rfl⟩
 refine WL.quiet (Qt.assign rfl) rfl rfl ?_
 refine WL.nil ?_
 refine WX.next ?_
 refine WC.seq ?_
 refine WC.seq ?_
 refine WC.region ?_
 refine WL.quiet (Qt.move rfl) rfl rfl ?_
 refine WL.nil ?_
 refine WX.next ?_
 refine WC.block ?_
 refine WC.seq ?_
 refine WC.region ?_
 refine WL.quiet (Qt.eql rfl rfl) rfl rfl ?_
 refine WL.quiet (Qt.assign rfl) rfl rfl ?_
 refine WL.nil ?_
 refine WX.next ?_
 refine WC.yes rfl ?_
 refine WC.seq ?_
 refine WC.region ?_
 refine WL.quiet (Qt.fieldAddrB tf58_0 rfl) rfl rfl ?_
 refine WL.quiet (Qt.loadB 0 rfl ta3 rfl rfl) rfl rfl ?_
 refine WL.quiet (Qt.assign rfl) rfl rfl ?_
 refine WL.nil ?_
 refine WX.next ?_
 refine WC.ret ?_
 refine WX.block_ret ?_
 refine WX.pass_ret ?_
 refine WX.ret1 (.nil) rfl rfl ?_
 exact ⟨rfl, rfl⟩

end Go.Proofs.YtolggjmgfijjfaaGreatDoor.Sep

/- A walk, printed by gen.py out of hints. -/
namespace Go.Proofs.YtolggjmgfijjfaaGreatDoor.Sep
open Go
variable {μ : Prop}
theorem checkAddr17_00   : Spec μ Tryz.prog 131 #[.agg [.int .i64 2, .int .i64 1, .int .i64 0, .int .i64 0].toArray, .agg [.int .i64 0, .int .i64 0].toArray] [] fun v Δ => v = .int .i64 0 ∧ Δ = [] := by
 refine Spec.of_body (n := 20) Tryz.func131 rfl rfl rfl fun w0 S0 O0 => ?_
 show WC _ _ _ _ _ _ [(0, .agg [.int .i64 2, .int .i64 1, .int .i64 0, .int .i64 0].toArray), (1, .agg [.int .i64 0, .int .i64 0].toArray)] []
 refine WC.seq ?_
 refine WC.region ?_
 refine WL.loud (.nil) (Ld.box rfl rfl) trivial rfl ?_
 rintro _ _ ⟨b_1, rfl, rfl⟩
 refine WL.loud (.nil) (Ld.box rfl rfl) trivial rfl ?_
 rintro _ _ ⟨b_2, rfl, rfl⟩
 refine WL.quiet (Qt.assign rfl) rfl rfl ?_
 refine WL.nil ?_
 refine WX.next ?_
 refine WC.seq ?_
 refine WC.block ?_
 refine WC.seq ?_
 refine WC.region ?_
 refine WL.quiet (Qt.fieldAddrB tf47_0 rfl) rfl rfl ?_
 refine WL.quiet (Qt.loadB 0 rfl ta3 rfl rfl) rfl rfl ?_
 refine WL.call (.nil) (Cl.func cb116 rfl) (withinW 0 2) trivial rfl ?_
 rintro _ _ ⟨rfl, rfl⟩
 refine WL.quiet (Qt.not rfl) rfl rfl ?_
 refine WL.quiet (Qt.assign rfl) rfl rfl ?_
 refine WL.nil ?_
 refine WX.next ?_
 refine WC.no rfl ?_
 refine WC.seq ?_
 refine WC.calm (Calm.then (Calm.inBlock (Calm.then (calm_FQ _ _)))) fun hC => ?_
 refine WC.draw (Γq := [blk b_2 47 [.int .i64 0, .int .i64 0], blk b_1 58 [.int .i64 2, .int .i64 1, .int .i64 0, .int .i64 0]]) [0, 1, 2, 3, 4, 5, 6, 7, 8, 9] mixed ?_
 refine WA.named (.take 0 rfl (.take 0 rfl (.nil))) fun sl_1 => ?_
 refine WA.tk 0 (by kernel_rfl) rfl hC (Qt.fieldAddrB tf47_1 rfl) trivial rfl sl_1 ?_
 refine WA.tk 1 (by kernel_rfl) rfl hC (Qt.loadB 0 rfl ta3 rfl rfl) trivial rfl sl_1 ?_
 refine WA.tk 2 (by kernel_rfl) rfl hC (Qt.loadBA 1 rfl ta58 ti58 rfl rfl) trivial rfl sl_1 ?_
 refine WA.tk 3 (by kernel_rfl) rfl hC (Qt.fieldAddrB tf47_0 rfl) trivial rfl sl_1 ?_
 refine WA.tk 4 (by kernel_rfl) rfl hC (Qt.loadB 0 rfl ta3 rfl rfl) trivial rfl sl_1 ?_
 refine WA.one 5 (by kernel_rfl) ?_
 refine WO.call rfl (.nil) (Cl.func cb133 rfl) (width17_0) trivial rfl (by rintro _ _ ⟨rfl, rfl⟩; exact ⟨_, (.take 0 rfl (.take 0 rfl (.nil)))⟩) ?_
 rintro _ _ ⟨rfl, rfl⟩
 refine WA.tk 6 (by kernel_rfl) rfl hC (Qt.to (v' := .int .i64 1) (Qt.sub rfl rfl (by decide)) rfl) trivial rfl sl_1 ?_
 refine WA.one 7 (by kernel_rfl) ?_
 refine WO.call rfl (.nil) (Cl.func cb116 rfl) (withinW 0 1) trivial rfl (by rintro _ _ ⟨rfl, rfl⟩; exact ⟨_, (.take 0 rfl (.take 0 rfl (.nil)))⟩) ?_
 rintro _ _ ⟨rfl, rfl⟩
 refine WA.tk 8 (by kernel_rfl) rfl hC (Qt.not rfl) trivial rfl sl_1 ?_
 refine WA.tk 9 (by kernel_rfl) rfl hC (Qt.assign rfl) trivial rfl sl_1 ?_
 refine WA.done (by kernel_rfl) ?_
 refine WX.next ?_
 refine WC.no rfl ?_
 refine WC.skip ?_
 refine WX.block_end ?_
 refine WX.next ?_
 refine WC.seq ?_
 refine WC.region ?_
 refine WL.quiet (Qt.assign rfl) rfl rfl ?_
 refine WL.nil ?_
 refine WX.next ?_
 refine WC.ret ?_
 refine WX.ret1 (.nil) rfl rfl ?_
 exact ⟨rfl, rfl⟩

end Go.Proofs.YtolggjmgfijjfaaGreatDoor.Sep

/- A walk, printed by gen.py out of hints. -/
namespace Go.Proofs.YtolggjmgfijjfaaGreatDoor.Sep
open Go
variable {μ : Prop}
theorem part17_000   : Spec μ Tryz.prog 119 #[.agg [.int .i64 2, .int .i64 1, .int .i64 0, .int .i64 0].toArray, .int .i64 0, .agg [.int .i64 0, .int .i64 0].toArray] [] fun v Δ => v = .int .i64 0 ∧ Δ = [] := by
 refine Spec.of_body (n := 16) Tryz.func119 rfl rfl rfl fun w0 S0 O0 => ?_
 show WC _ _ _ _ _ _ [(0, .agg [.int .i64 2, .int .i64 1, .int .i64 0, .int .i64 0].toArray), (1, .int .i64 0), (2, .agg [.int .i64 0, .int .i64 0].toArray)] []
 refine WC.seq ?_
 refine WC.region ?_
 refine WL.loud (.nil) (Ld.box rfl rfl) trivial rfl ?_
 rintro _ _ ⟨b_1, rfl, rfl⟩
 refine WL.loud (.nil) (Ld.box rfl rfl) trivial rfl ?_
 rintro _ _ ⟨b_2, rfl, rfl⟩
 refine WL.quiet (Qt.assign rfl) rfl rfl ?_
 refine WL.nil ?_
 refine WX.next ?_
 refine WC.seq ?_
 refine WC.seq ?_
 refine WC.region ?_
 refine WL.quiet (Qt.move rfl) rfl rfl ?_
 refine WL.quiet (Qt.lss rfl rfl) rfl rfl ?_
 refine WL.quiet (Qt.move rfl) rfl rfl ?_
 refine WL.quietG 2 false rfl 9 rfl rfl (Qt.move rfl) rfl ?_
 refine WL.quietG 2 false rfl 9 rfl rfl (Qt.geq rfl rfl) rfl ?_
 refine WL.quiet (Qt.pickF rfl rfl) rfl rfl ?_
 refine WL.nil ?_
 refine WX.next ?_
 refine WC.no rfl ?_
 refine WC.skip ?_
 refine WX.next ?_
 refine WC.seq ?_
 refine WC.region ?_
 refine WL.quiet (Qt.loadBA 1 rfl ta58 ti58 rfl rfl) rfl rfl ?_
 refine WL.quiet (Qt.loadBA 0 rfl ta47 ti47 rfl rfl) rfl rfl ?_
 refine WL.call (.nil) (Cl.func cb131 rfl) (checkAddr17_00) trivial rfl ?_
 rintro _ _ ⟨rfl, rfl⟩
 refine WL.quiet (Qt.assign rfl) rfl rfl ?_
 refine WL.nil ?_
 refine WX.next ?_
 refine WC.ret ?_
 refine WX.ret1 (.nil) rfl rfl ?_
 exact ⟨rfl, rfl⟩

end Go.Proofs.YtolggjmgfijjfaaGreatDoor.Sep

/- A walk, printed by gen.py out of hints. -/
namespace Go.Proofs.YtolggjmgfijjfaaGreatDoor.Sep
open Go
variable {μ : Prop}
theorem checkAddr17_01   : Spec μ Tryz.prog 131 #[.agg [.int .i64 2, .int .i64 1, .int .i64 0, .int .i64 0].toArray, .agg [.int .i64 0, .int .i64 1].toArray] [] fun v Δ => v = .int .i64 0 ∧ Δ = [] := by
 refine Spec.of_body (n := 20) Tryz.func131 rfl rfl rfl fun w0 S0 O0 => ?_
 show WC _ _ _ _ _ _ [(0, .agg [.int .i64 2, .int .i64 1, .int .i64 0, .int .i64 0].toArray), (1, .agg [.int .i64 0, .int .i64 1].toArray)] []
 refine WC.seq ?_
 refine WC.region ?_
 refine WL.loud (.nil) (Ld.box rfl rfl) trivial rfl ?_
 rintro _ _ ⟨b_1, rfl, rfl⟩
 refine WL.loud (.nil) (Ld.box rfl rfl) trivial rfl ?_
 rintro _ _ ⟨b_2, rfl, rfl⟩
 refine WL.quiet (Qt.assign rfl) rfl rfl ?_
 refine WL.nil ?_
 refine WX.next ?_
 refine WC.seq ?_
 refine WC.block ?_
 refine WC.seq ?_
 refine WC.region ?_
 refine WL.quiet (Qt.fieldAddrB tf47_0 rfl) rfl rfl ?_
 refine WL.quiet (Qt.loadB 0 rfl ta3 rfl rfl) rfl rfl ?_
 refine WL.call (.nil) (Cl.func cb116 rfl) (withinW 0 2) trivial rfl ?_
 rintro _ _ ⟨rfl, rfl⟩
 refine WL.quiet (Qt.not rfl) rfl rfl ?_
 refine WL.quiet (Qt.assign rfl) rfl rfl ?_
 refine WL.nil ?_
 refine WX.next ?_
 refine WC.no rfl ?_
 refine WC.seq ?_
 refine WC.calm (Calm.then (Calm.inBlock (Calm.then (calm_FQ _ _)))) fun hC => ?_
 refine WC.draw (Γq := [blk b_2 47 [.int .i64 0, .int .i64 1], blk b_1 58 [.int .i64 2, .int .i64 1, .int .i64 0, .int .i64 0]]) [0, 1, 2, 3, 4, 5, 6, 7, 8, 9] mixed ?_
 refine WA.named (.take 0 rfl (.take 0 rfl (.nil))) fun sl_1 => ?_
 refine WA.tk 0 (by kernel_rfl) rfl hC (Qt.fieldAddrB tf47_1 rfl) trivial rfl sl_1 ?_
 refine WA.tk 1 (by kernel_rfl) rfl hC (Qt.loadB 0 rfl ta3 rfl rfl) trivial rfl sl_1 ?_
 refine WA.tk 2 (by kernel_rfl) rfl hC (Qt.loadBA 1 rfl ta58 ti58 rfl rfl) trivial rfl sl_1 ?_
 refine WA.tk 3 (by kernel_rfl) rfl hC (Qt.fieldAddrB tf47_0 rfl) trivial rfl sl_1 ?_
 refine WA.tk 4 (by kernel_rfl) rfl hC (Qt.loadB 0 rfl ta3 rfl rfl) trivial rfl sl_1 ?_
 refine WA.one 5 (by kernel_rfl) ?_
 refine WO.call rfl (.nil) (Cl.func cb133 rfl) (width17_0) trivial rfl (by rintro _ _ ⟨rfl, rfl⟩; exact ⟨_, (.take 0 rfl (.take 0 rfl (.nil)))⟩) ?_
 rintro _ _ ⟨rfl, rfl⟩
 refine WA.tk 6 (by kernel_rfl) rfl hC (Qt.to (v' := .int .i64 1) (Qt.sub rfl rfl (by decide)) rfl) trivial rfl sl_1 ?_
 refine WA.one 7 (by kernel_rfl) ?_
 refine WO.call rfl (.nil) (Cl.func cb116 rfl) (withinW 1 1) trivial rfl (by rintro _ _ ⟨rfl, rfl⟩; exact ⟨_, (.take 0 rfl (.take 0 rfl (.nil)))⟩) ?_
 rintro _ _ ⟨rfl, rfl⟩
 refine WA.tk 8 (by kernel_rfl) rfl hC (Qt.not rfl) trivial rfl sl_1 ?_
 refine WA.tk 9 (by kernel_rfl) rfl hC (Qt.assign rfl) trivial rfl sl_1 ?_
 refine WA.done (by kernel_rfl) ?_
 refine WX.next ?_
 refine WC.no rfl ?_
 refine WC.skip ?_
 refine WX.block_end ?_
 refine WX.next ?_
 refine WC.seq ?_
 refine WC.region ?_
 refine WL.quiet (Qt.assign rfl) rfl rfl ?_
 refine WL.nil ?_
 refine WX.next ?_
 refine WC.ret ?_
 refine WX.ret1 (.nil) rfl rfl ?_
 exact ⟨rfl, rfl⟩

end Go.Proofs.YtolggjmgfijjfaaGreatDoor.Sep

/- A walk, printed by gen.py out of hints. -/
namespace Go.Proofs.YtolggjmgfijjfaaGreatDoor.Sep
open Go
variable {μ : Prop}
theorem part17_101   : Spec μ Tryz.prog 119 #[.agg [.int .i64 2, .int .i64 1, .int .i64 0, .int .i64 0].toArray, .int .i64 1, .agg [.int .i64 0, .int .i64 1].toArray] [] fun v Δ => v = .int .i64 0 ∧ Δ = [] := by
 refine Spec.of_body (n := 16) Tryz.func119 rfl rfl rfl fun w0 S0 O0 => ?_
 show WC _ _ _ _ _ _ [(0, .agg [.int .i64 2, .int .i64 1, .int .i64 0, .int .i64 0].toArray), (1, .int .i64 1), (2, .agg [.int .i64 0, .int .i64 1].toArray)] []
 refine WC.seq ?_
 refine WC.region ?_
 refine WL.loud (.nil) (Ld.box rfl rfl) trivial rfl ?_
 rintro _ _ ⟨b_1, rfl, rfl⟩
 refine WL.loud (.nil) (Ld.box rfl rfl) trivial rfl ?_
 rintro _ _ ⟨b_2, rfl, rfl⟩
 refine WL.quiet (Qt.assign rfl) rfl rfl ?_
 refine WL.nil ?_
 refine WX.next ?_
 refine WC.seq ?_
 refine WC.seq ?_
 refine WC.region ?_
 refine WL.quiet (Qt.move rfl) rfl rfl ?_
 refine WL.quiet (Qt.lss rfl rfl) rfl rfl ?_
 refine WL.quiet (Qt.move rfl) rfl rfl ?_
 refine WL.quietG 2 false rfl 9 rfl rfl (Qt.move rfl) rfl ?_
 refine WL.quietG 2 false rfl 9 rfl rfl (Qt.geq rfl rfl) rfl ?_
 refine WL.quiet (Qt.pickF rfl rfl) rfl rfl ?_
 refine WL.nil ?_
 refine WX.next ?_
 refine WC.no rfl ?_
 refine WC.skip ?_
 refine WX.next ?_
 refine WC.seq ?_
 refine WC.region ?_
 refine WL.quiet (Qt.loadBA 1 rfl ta58 ti58 rfl rfl) rfl rfl ?_
 refine WL.quiet (Qt.loadBA 0 rfl ta47 ti47 rfl rfl) rfl rfl ?_
 refine WL.call (.nil) (Cl.func cb131 rfl) (checkAddr17_01) trivial rfl ?_
 rintro _ _ ⟨rfl, rfl⟩
 refine WL.quiet (Qt.assign rfl) rfl rfl ?_
 refine WL.nil ?_
 refine WX.next ?_
 refine WC.ret ?_
 refine WX.ret1 (.nil) rfl rfl ?_
 exact ⟨rfl, rfl⟩

end Go.Proofs.YtolggjmgfijjfaaGreatDoor.Sep

/- A walk, printed by gen.py out of hints. -/
namespace Go.Proofs.YtolggjmgfijjfaaGreatDoor.Sep
open Go
variable {μ : Prop}
theorem width17_1   : Spec μ Tryz.prog 133 #[.agg [.int .i64 2, .int .i64 1, .int .i64 0, .int .i64 0].toArray, .int .i64 1] [] fun v Δ => v = .int .i64 1 ∧ Δ = [] := by
 refine Spec.of_body (n := 18) Tryz.func133 rfl rfl rfl fun w0 S0 O0 => ?_
 show WC _ _ _ _ _ _ [(0, .agg [.int .i64 2, .int .i64 1, .int .i64 0, .int .i64 0].toArray), (1, .int .i64 1)] []
 refine WC.seq ?_
 refine WC.region ?_
 refine WL.loud (.nil) (Ld.box rfl rfl) trivial rfl ?_
 rintro _ _ ⟨b_1, rfl, rfl⟩
 refine WL.quiet (Qt.assign rfl) rfl rfl ?_
 refine WL.nil ?_
 refine WX.next ?_
 refine WC.seq ?_
 refine WC.seq ?_
 refine WC.region ?_
 refine WL.quiet (Qt.move rfl) rfl rfl ?_
 refine WL.nil ?_
 refine WX.next ?_
 refine WC.block ?_
 refine WC.seq ?_
 refine WC.region ?_
 refine WL.quiet (Qt.eql rfl rfl) rfl rfl ?_
 refine WL.quiet (Qt.assign rfl) rfl rfl ?_
 refine WL.nil ?_
 refine WX.next ?_
 refine WC.no rfl ?_
 refine WC.seq ?_
 refine WC.region ?_
 refine WL.quiet (Qt.eql rfl rfl) rfl rfl ?_
 refine WL.quiet (Qt.assign rfl) rfl rfl ?_
 refine WL.nil ?_
 refine WX.next ?_
 refine WC.yes rfl ?_
 refine WC.seq ?_
 refine WC.region ?_
 refine WL.quiet (Qt.fieldAddrB tf58_1 rfl) rfl rfl ?_
 refine WL.quiet (Qt.loadB 0 rfl ta3 rfl rfl) rfl rfl ?_
 refine WL.quiet (Qt.assign rfl) rfl rfl ?_
 refine WL.nil ?_
 refine WX.next ?_
 refine WC.ret ?_
 refine WX.block_ret ?_
 refine WX.pass_ret ?_
 refine WX.ret1 (.nil) rfl rfl ?_
 exact ⟨rfl, rfl⟩

end Go.Proofs.YtolggjmgfijjfaaGreatDoor.Sep

/- A walk, printed by gen.py out of hints. -/
namespace Go.Proofs.YtolggjmgfijjfaaGreatDoor.Sep
open Go
variable {μ : Prop}
theorem checkAddr17_10   : Spec μ Tryz.prog 131 #[.agg [.int .i64 2, .int .i64 1, .int .i64 0, .int .i64 0].toArray, .agg [.int .i64 1, .int .i64 0].toArray] [] fun v Δ => v = .int .i64 0 ∧ Δ = [] := by
 refine Spec.of_body (n := 20) Tryz.func131 rfl rfl rfl fun w0 S0 O0 => ?_
 show WC _ _ _ _ _ _ [(0, .agg [.int .i64 2, .int .i64 1, .int .i64 0, .int .i64 0].toArray), (1, .agg [.int .i64 1, .int .i64 0].toArray)] []
 refine WC.seq ?_
 refine WC.region ?_
 refine WL.loud (.nil) (Ld.box rfl rfl) trivial rfl ?_
 rintro _ _ ⟨b_1, rfl, rfl⟩
 refine WL.loud (.nil) (Ld.box rfl rfl) trivial rfl ?_
 rintro _ _ ⟨b_2, rfl, rfl⟩
 refine WL.quiet (Qt.assign rfl) rfl rfl ?_
 refine WL.nil ?_
 refine WX.next ?_
 refine WC.seq ?_
 refine WC.block ?_
 refine WC.seq ?_
 refine WC.region ?_
 refine WL.quiet (Qt.fieldAddrB tf47_0 rfl) rfl rfl ?_
 refine WL.quiet (Qt.loadB 0 rfl ta3 rfl rfl) rfl rfl ?_
 refine WL.call (.nil) (Cl.func cb116 rfl) (withinW 1 2) trivial rfl ?_
 rintro _ _ ⟨rfl, rfl⟩
 refine WL.quiet (Qt.not rfl) rfl rfl ?_
 refine WL.quiet (Qt.assign rfl) rfl rfl ?_
 refine WL.nil ?_
 refine WX.next ?_
 refine WC.no rfl ?_
 refine WC.seq ?_
 refine WC.calm (Calm.then (Calm.inBlock (Calm.then (calm_FQ _ _)))) fun hC => ?_
 refine WC.draw (Γq := [blk b_2 47 [.int .i64 1, .int .i64 0], blk b_1 58 [.int .i64 2, .int .i64 1, .int .i64 0, .int .i64 0]]) [0, 1, 2, 3, 4, 5, 6, 7, 8, 9] mixed ?_
 refine WA.named (.take 0 rfl (.take 0 rfl (.nil))) fun sl_1 => ?_
 refine WA.tk 0 (by kernel_rfl) rfl hC (Qt.fieldAddrB tf47_1 rfl) trivial rfl sl_1 ?_
 refine WA.tk 1 (by kernel_rfl) rfl hC (Qt.loadB 0 rfl ta3 rfl rfl) trivial rfl sl_1 ?_
 refine WA.tk 2 (by kernel_rfl) rfl hC (Qt.loadBA 1 rfl ta58 ti58 rfl rfl) trivial rfl sl_1 ?_
 refine WA.tk 3 (by kernel_rfl) rfl hC (Qt.fieldAddrB tf47_0 rfl) trivial rfl sl_1 ?_
 refine WA.tk 4 (by kernel_rfl) rfl hC (Qt.loadB 0 rfl ta3 rfl rfl) trivial rfl sl_1 ?_
 refine WA.one 5 (by kernel_rfl) ?_
 refine WO.call rfl (.nil) (Cl.func cb133 rfl) (width17_1) trivial rfl (by rintro _ _ ⟨rfl, rfl⟩; exact ⟨_, (.take 0 rfl (.take 0 rfl (.nil)))⟩) ?_
 rintro _ _ ⟨rfl, rfl⟩
 refine WA.tk 6 (by kernel_rfl) rfl hC (Qt.to (v' := .int .i64 0) (Qt.sub rfl rfl (by decide)) rfl) trivial rfl sl_1 ?_
 refine WA.one 7 (by kernel_rfl) ?_
 refine WO.call rfl (.nil) (Cl.func cb116 rfl) (withinW 0 0) trivial rfl (by rintro _ _ ⟨rfl, rfl⟩; exact ⟨_, (.take 0 rfl (.take 0 rfl (.nil)))⟩) ?_
 rintro _ _ ⟨rfl, rfl⟩
 refine WA.tk 8 (by kernel_rfl) rfl hC (Qt.not rfl) trivial rfl sl_1 ?_
 refine WA.tk 9 (by kernel_rfl) rfl hC (Qt.assign rfl) trivial rfl sl_1 ?_
 refine WA.done (by kernel_rfl) ?_
 refine WX.next ?_
 refine WC.no rfl ?_
 refine WC.skip ?_
 refine WX.block_end ?_
 refine WX.next ?_
 refine WC.seq ?_
 refine WC.region ?_
 refine WL.quiet (Qt.assign rfl) rfl rfl ?_
 refine WL.nil ?_
 refine WX.next ?_
 refine WC.ret ?_
 refine WX.ret1 (.nil) rfl rfl ?_
 exact ⟨rfl, rfl⟩

end Go.Proofs.YtolggjmgfijjfaaGreatDoor.Sep

/- A walk, printed by gen.py out of hints. -/
namespace Go.Proofs.YtolggjmgfijjfaaGreatDoor.Sep
open Go
variable {μ : Prop}
theorem part17_010   : Spec μ Tryz.prog 119 #[.agg [.int .i64 2, .int .i64 1, .int .i64 0, .int .i64 0].toArray, .int .i64 0, .agg [.int .i64 1, .int .i64 0].toArray] [] fun v Δ => v = .int .i64 0 ∧ Δ = [] := by
 refine Spec.of_body (n := 16) Tryz.func119 rfl rfl rfl fun w0 S0 O0 => ?_
 show WC _ _ _ _ _ _ [(0, .agg [.int .i64 2, .int .i64 1, .int .i64 0, .int .i64 0].toArray), (1, .int .i64 0), (2, .agg [.int .i64 1, .int .i64 0].toArray)] []
 refine WC.seq ?_
 refine WC.region ?_
 refine WL.loud (.nil) (Ld.box rfl rfl) trivial rfl ?_
 rintro _ _ ⟨b_1, rfl, rfl⟩
 refine WL.loud (.nil) (Ld.box rfl rfl) trivial rfl ?_
 rintro _ _ ⟨b_2, rfl, rfl⟩
 refine WL.quiet (Qt.assign rfl) rfl rfl ?_
 refine WL.nil ?_
 refine WX.next ?_
 refine WC.seq ?_
 refine WC.seq ?_
 refine WC.region ?_
 refine WL.quiet (Qt.move rfl) rfl rfl ?_
 refine WL.quiet (Qt.lss rfl rfl) rfl rfl ?_
 refine WL.quiet (Qt.move rfl) rfl rfl ?_
 refine WL.quietG 2 false rfl 9 rfl rfl (Qt.move rfl) rfl ?_
 refine WL.quietG 2 false rfl 9 rfl rfl (Qt.geq rfl rfl) rfl ?_
 refine WL.quiet (Qt.pickF rfl rfl) rfl rfl ?_
 refine WL.nil ?_
 refine WX.next ?_
 refine WC.no rfl ?_
 refine WC.skip ?_
 refine WX.next ?_
 refine WC.seq ?_
 refine WC.region ?_
 refine WL.quiet (Qt.loadBA 1 rfl ta58 ti58 rfl rfl) rfl rfl ?_
 refine WL.quiet (Qt.loadBA 0 rfl ta47 ti47 rfl rfl) rfl rfl ?_
 refine WL.call (.nil) (Cl.func cb131 rfl) (checkAddr17_10) trivial rfl ?_
 rintro _ _ ⟨rfl, rfl⟩
 refine WL.quiet (Qt.assign rfl) rfl rfl ?_
 refine WL.nil ?_
 refine WX.next ?_
 refine WC.ret ?_
 refine WX.ret1 (.nil) rfl rfl ?_
 exact ⟨rfl, rfl⟩

end Go.Proofs.YtolggjmgfijjfaaGreatDoor.Sep

/- A walk, printed by gen.py out of hints. -/
namespace Go.Proofs.YtolggjmgfijjfaaGreatDoor.Sep
open Go
variable {μ : Prop}
theorem letter17_76   : Spec μ Tryz.prog 130 #[.int .i32 76] [] fun v Δ => v = .bool true ∧ Δ = [] := by
 refine Spec.of_body (n := 17) Tryz.func130 rfl rfl rfl fun w0 S0 O0 => ?_
 show WC _ _ _ _ _ _ [(0, .int .i32 76)] []
 refine WC.seq ?_
 refine WC.region ?_
 refine WL.quiet (Qt.assign rfl) rfl rfl ?_
 refine WL.nil ?_
 refine WX.next ?_
 refine WC.seq ?_
 refine WC.region ?_
 refine WL.quiet (Qt.move rfl) rfl rfl ?_
 refine WL.quiet (Qt.geq rfl rfl) rfl rfl ?_
 refine WL.quiet (Qt.move rfl) rfl rfl ?_
 refine WL.skipG 2 true false rfl 5 rfl rfl rfl rfl ?_
 refine WL.skipG 2 true false rfl 5 rfl rfl rfl rfl ?_
 refine WL.quiet (Qt.pickF rfl rfl) rfl rfl ?_
 refine WL.quiet (Qt.move rfl) rfl rfl ?_
 refine WL.quietG 6 false rfl 9 rfl rfl (Qt.move rfl) rfl ?_
 refine WL.quietG 6 false rfl 9 rfl rfl (Qt.geq rfl rfl) rfl ?_
 refine WL.quietG 6 false rfl 9 rfl rfl (Qt.move rfl) rfl ?_
 refine WL.quietG 9 true rfl 12 rfl rfl (Qt.move rfl) rfl ?_
 refine WL.quietG 9 true rfl 12 rfl rfl (Qt.leq rfl rfl) rfl ?_
 refine WL.quietG 6 false rfl 9 rfl rfl (Qt.pickT rfl rfl) rfl ?_
 refine WL.quiet (Qt.pickF rfl rfl) rfl rfl ?_
 refine WL.quiet (Qt.assign rfl) rfl rfl ?_
 refine WL.nil ?_
 refine WX.next ?_
 refine WC.ret ?_
 refine WX.ret1 (.nil) rfl rfl ?_
 exact ⟨rfl, rfl⟩

end Go.Proofs.YtolggjmgfijjfaaGreatDoor.Sep

/- A walk, printed by gen.py out of hints. -/
namespace Go.Proofs.YtolggjmgfijjfaaGreatDoor.Sep
open Go
variable {μ : Prop}
theorem isName17_76   : Spec μ Tryz.prog 117 #[.string (⟨#[76]⟩ : ByteArray)] [] fun v Δ => v = .bool true ∧ Δ = [] := by
 refine Spec.of_body (n := 37) Tryz.func117 rfl rfl rfl fun w0 S0 O0 => ?_
 show WC _ _ _ _ _ _ [(0, .string (⟨#[76]⟩ : ByteArray))] []
 refine WC.seq ?_
 refine WC.region ?_
 refine WL.quiet (Qt.assign rfl) rfl rfl ?_
 refine WL.nil ?_
 refine WX.next ?_
 refine WC.seq ?_
 refine WC.seq ?_
 refine WC.region ?_
 refine WL.quiet (Qt.move rfl) rfl rfl ?_
 refine WL.quiet (Qt.to (Qt.seql rfl rfl) (congrArg Value.bool (decide_eq_false (fun h => absurd (congrArg ByteArray.size h) (by decide))))) rfl rfl ?_
 refine WL.quiet (Qt.move rfl) rfl rfl ?_
 refine WL.quietG 2 false rfl 7 rfl rfl (Qt.move rfl) rfl ?_
 refine WL.quietG 2 false rfl 7 rfl rfl (Qt.lenStr Tryz.underlying9 rfl) rfl ?_
 refine WL.quietG 2 false rfl 7 rfl rfl (Qt.gtr rfl rfl) rfl ?_
 refine WL.quiet (Qt.pickF rfl rfl) rfl rfl ?_
 refine WL.nil ?_
 refine WX.next ?_
 refine WC.no rfl ?_
 refine WC.skip ?_
 refine WX.next ?_
 refine WC.seq ?_
 refine WC.seq ?_
 refine WC.region ?_
 refine WL.quiet (Qt.move rfl) rfl rfl ?_
 refine WL.loud (.nil) (Ld.rangeStr Tryz.underlying9 rfl) trivial rfl ?_
 rintro _ _ ⟨b_1, rfl, rfl⟩
 refine WL.nil ?_
 refine WX.next ?_
 refine WC.block ?_
 refine WC.unroll 2 ?_
 refine WR.one ?_
 refine WC.seq ?_
 refine WC.region ?_
 refine WL.loud (.take 0 rfl (.nil)) (Ld.nextStr (pos := 0) (c := 76) rfl (by decide) (decode_ascii _ _ (by decide) (by decide))) trivial rfl ?_
 rintro _ _ ⟨rfl, rfl⟩
 refine WL.quiet (Qt.extract rfl rfl) rfl rfl ?_
 refine WL.nil ?_
 refine WX.next ?_
 refine WC.seq ?_
 refine WC.yes rfl ?_
 refine WC.skip ?_
 refine WX.next ?_
 refine WC.block ?_
 refine WC.seq ?_
 refine WC.region ?_
 refine WL.quiet (Qt.extract rfl rfl) rfl rfl ?_
 refine WL.quiet (Qt.extract rfl rfl) rfl rfl ?_
 refine WL.quiet (Qt.assign rfl) rfl rfl ?_
 refine WL.quiet (Qt.assign rfl) rfl rfl ?_
 refine WL.nil ?_
 refine WX.next ?_
 refine WC.seq ?_
 refine WC.region ?_
 refine WL.quiet (Qt.move rfl) rfl rfl ?_
 refine WL.call (.nil) (Cl.func cb130 rfl) (letter17_76) trivial rfl ?_
 rintro _ _ ⟨rfl, rfl⟩
 refine WL.quiet (Qt.not rfl) rfl rfl ?_
 refine WL.quiet (Qt.move rfl) rfl rfl ?_
 refine WL.skipG 3 true false rfl 21 rfl rfl rfl rfl ?_
 refine WL.skipG 3 true false rfl 21 rfl rfl rfl rfl ?_
 refine WL.skipG 3 true false rfl 21 rfl rfl rfl rfl ?_
 refine WL.skipU 6 false rfl 24 rfl rfl rfl ?_
 refine WL.skipU 6 false rfl 24 rfl rfl rfl ?_
 refine WL.skipU 6 false rfl 24 rfl rfl rfl ?_
 refine WL.skipU 9 true rfl 27 rfl rfl rfl ?_
 refine WL.skipU 9 true rfl 27 rfl rfl rfl ?_
 refine WL.skipU 9 true rfl 27 rfl rfl rfl ?_
 refine WL.skipU 12 false rfl 30 rfl rfl rfl ?_
 refine WL.skipU 12 false rfl 30 rfl rfl rfl ?_
 refine WL.skipU 9 true rfl 27 rfl rfl rfl ?_
 refine WL.skipU 6 false rfl 24 rfl rfl rfl ?_
 refine WL.skipG 3 true false rfl 21 rfl rfl rfl rfl ?_
 refine WL.quiet (Qt.pickF rfl rfl) rfl rfl ?_
 refine WL.nil ?_
 refine WX.next ?_
 refine WC.no rfl ?_
 refine WC.skip ?_
 refine WX.block_end ?_
 refine WX.again ?_
 refine WR.one ?_
 refine WC.seq ?_
 refine WC.region ?_
 refine WL.loud (.take 0 rfl (.nil)) (Ld.nextStrEnd rfl (by decide)) trivial rfl ?_
 rintro _ _ ⟨rfl, rfl⟩
 refine WL.quiet (Qt.extract rfl rfl) rfl rfl ?_
 refine WL.nil ?_
 refine WX.next ?_
 refine WC.seq ?_
 refine WC.no rfl ?_
 refine WC.exit ?_
 refine WX.pass_exit ?_
 refine WX.pass_exit ?_
 refine WX.block_exit ?_
 refine WX.next ?_
 refine WC.seq ?_
 refine WC.region ?_
 refine WL.quiet (Qt.assign rfl) rfl rfl ?_
 refine WL.nil ?_
 refine WX.next ?_
 refine WC.ret ?_
 refine WX.ret1 (.nil) rfl rfl ?_
 exact ⟨rfl, rfl⟩

end Go.Proofs.YtolggjmgfijjfaaGreatDoor.Sep

/- A walk, printed by gen.py out of hints. -/
namespace Go.Proofs.YtolggjmgfijjfaaGreatDoor.Sep
open Go
variable {μ : Prop}
theorem letter17_97   : Spec μ Tryz.prog 130 #[.int .i32 97] [] fun v Δ => v = .bool true ∧ Δ = [] := by
 refine Spec.of_body (n := 17) Tryz.func130 rfl rfl rfl fun w0 S0 O0 => ?_
 show WC _ _ _ _ _ _ [(0, .int .i32 97)] []
 refine WC.seq ?_
 refine WC.region ?_
 refine WL.quiet (Qt.assign rfl) rfl rfl ?_
 refine WL.nil ?_
 refine WX.next ?_
 refine WC.seq ?_
 refine WC.region ?_
 refine WL.quiet (Qt.move rfl) rfl rfl ?_
 refine WL.quiet (Qt.geq rfl rfl) rfl rfl ?_
 refine WL.quiet (Qt.move rfl) rfl rfl ?_
 refine WL.quietG 2 true rfl 5 rfl rfl (Qt.move rfl) rfl ?_
 refine WL.quietG 2 true rfl 5 rfl rfl (Qt.leq rfl rfl) rfl ?_
 refine WL.quiet (Qt.pickT rfl rfl) rfl rfl ?_
 refine WL.quiet (Qt.move rfl) rfl rfl ?_
 refine WL.skipG 6 false true rfl 9 rfl rfl rfl rfl ?_
 refine WL.skipG 6 false true rfl 9 rfl rfl rfl rfl ?_
 refine WL.skipG 6 false true rfl 9 rfl rfl rfl rfl ?_
 refine WL.skipU 9 true rfl 12 rfl rfl rfl ?_
 refine WL.skipU 9 true rfl 12 rfl rfl rfl ?_
 refine WL.skipG 6 false true rfl 9 rfl rfl rfl rfl ?_
 refine WL.quiet (Qt.pickT rfl rfl) rfl rfl ?_
 refine WL.quiet (Qt.assign rfl) rfl rfl ?_
 refine WL.nil ?_
 refine WX.next ?_
 refine WC.ret ?_
 refine WX.ret1 (.nil) rfl rfl ?_
 exact ⟨rfl, rfl⟩

end Go.Proofs.YtolggjmgfijjfaaGreatDoor.Sep

/- A walk, printed by gen.py out of hints. -/
namespace Go.Proofs.YtolggjmgfijjfaaGreatDoor.Sep
open Go
variable {μ : Prop}
theorem isName17_97   : Spec μ Tryz.prog 117 #[.string (⟨#[97]⟩ : ByteArray)] [] fun v Δ => v = .bool true ∧ Δ = [] := by
 refine Spec.of_body (n := 37) Tryz.func117 rfl rfl rfl fun w0 S0 O0 => ?_
 show WC _ _ _ _ _ _ [(0, .string (⟨#[97]⟩ : ByteArray))] []
 refine WC.seq ?_
 refine WC.region ?_
 refine WL.quiet (Qt.assign rfl) rfl rfl ?_
 refine WL.nil ?_
 refine WX.next ?_
 refine WC.seq ?_
 refine WC.seq ?_
 refine WC.region ?_
 refine WL.quiet (Qt.move rfl) rfl rfl ?_
 refine WL.quiet (Qt.to (Qt.seql rfl rfl) (congrArg Value.bool (decide_eq_false (fun h => absurd (congrArg ByteArray.size h) (by decide))))) rfl rfl ?_
 refine WL.quiet (Qt.move rfl) rfl rfl ?_
 refine WL.quietG 2 false rfl 7 rfl rfl (Qt.move rfl) rfl ?_
 refine WL.quietG 2 false rfl 7 rfl rfl (Qt.lenStr Tryz.underlying9 rfl) rfl ?_
 refine WL.quietG 2 false rfl 7 rfl rfl (Qt.gtr rfl rfl) rfl ?_
 refine WL.quiet (Qt.pickF rfl rfl) rfl rfl ?_
 refine WL.nil ?_
 refine WX.next ?_
 refine WC.no rfl ?_
 refine WC.skip ?_
 refine WX.next ?_
 refine WC.seq ?_
 refine WC.seq ?_
 refine WC.region ?_
 refine WL.quiet (Qt.move rfl) rfl rfl ?_
 refine WL.loud (.nil) (Ld.rangeStr Tryz.underlying9 rfl) trivial rfl ?_
 rintro _ _ ⟨b_1, rfl, rfl⟩
 refine WL.nil ?_
 refine WX.next ?_
 refine WC.block ?_
 refine WC.unroll 2 ?_
 refine WR.one ?_
 refine WC.seq ?_
 refine WC.region ?_
 refine WL.loud (.take 0 rfl (.nil)) (Ld.nextStr (pos := 0) (c := 97) rfl (by decide) (decode_ascii _ _ (by decide) (by decide))) trivial rfl ?_
 rintro _ _ ⟨rfl, rfl⟩
 refine WL.quiet (Qt.extract rfl rfl) rfl rfl ?_
 refine WL.nil ?_
 refine WX.next ?_
 refine WC.seq ?_
 refine WC.yes rfl ?_
 refine WC.skip ?_
 refine WX.next ?_
 refine WC.block ?_
 refine WC.seq ?_
 refine WC.region ?_
 refine WL.quiet (Qt.extract rfl rfl) rfl rfl ?_
 refine WL.quiet (Qt.extract rfl rfl) rfl rfl ?_
 refine WL.quiet (Qt.assign rfl) rfl rfl ?_
 refine WL.quiet (Qt.assign rfl) rfl rfl ?_
 refine WL.nil ?_
 refine WX.next ?_
 refine WC.seq ?_
 refine WC.region ?_
 refine WL.quiet (Qt.move rfl) rfl rfl ?_
 refine WL.call (.nil) (Cl.func cb130 rfl) (letter17_97) trivial rfl ?_
 rintro _ _ ⟨rfl, rfl⟩
 refine WL.quiet (Qt.not rfl) rfl rfl ?_
 refine WL.quiet (Qt.move rfl) rfl rfl ?_
 refine WL.skipG 3 true false rfl 21 rfl rfl rfl rfl ?_
 refine WL.skipG 3 true false rfl 21 rfl rfl rfl rfl ?_
 refine WL.skipG 3 true false rfl 21 rfl rfl rfl rfl ?_
 refine WL.skipU 6 false rfl 24 rfl rfl rfl ?_
 refine WL.skipU 6 false rfl 24 rfl rfl rfl ?_
 refine WL.skipU 6 false rfl 24 rfl rfl rfl ?_
 refine WL.skipU 9 true rfl 27 rfl rfl rfl ?_
 refine WL.skipU 9 true rfl 27 rfl rfl rfl ?_
 refine WL.skipU 9 true rfl 27 rfl rfl rfl ?_
 refine WL.skipU 12 false rfl 30 rfl rfl rfl ?_
 refine WL.skipU 12 false rfl 30 rfl rfl rfl ?_
 refine WL.skipU 9 true rfl 27 rfl rfl rfl ?_
 refine WL.skipU 6 false rfl 24 rfl rfl rfl ?_
 refine WL.skipG 3 true false rfl 21 rfl rfl rfl rfl ?_
 refine WL.quiet (Qt.pickF rfl rfl) rfl rfl ?_
 refine WL.nil ?_
 refine WX.next ?_
 refine WC.no rfl ?_
 refine WC.skip ?_
 refine WX.block_end ?_
 refine WX.again ?_
 refine WR.one ?_
 refine WC.seq ?_
 refine WC.region ?_
 refine WL.loud (.take 0 rfl (.nil)) (Ld.nextStrEnd rfl (by decide)) trivial rfl ?_
 rintro _ _ ⟨rfl, rfl⟩
 refine WL.quiet (Qt.extract rfl rfl) rfl rfl ?_
 refine WL.nil ?_
 refine WX.next ?_
 refine WC.seq ?_
 refine WC.no rfl ?_
 refine WC.exit ?_
 refine WX.pass_exit ?_
 refine WX.pass_exit ?_
 refine WX.block_exit ?_
 refine WX.next ?_
 refine WC.seq ?_
 refine WC.region ?_
 refine WL.quiet (Qt.assign rfl) rfl rfl ?_
 refine WL.nil ?_
 refine WX.next ?_
 refine WC.ret ?_
 refine WX.ret1 (.nil) rfl rfl ?_
 exact ⟨rfl, rfl⟩

end Go.Proofs.YtolggjmgfijjfaaGreatDoor.Sep

/- A walk, printed by gen.py out of hints. -/
namespace Go.Proofs.YtolggjmgfijjfaaGreatDoor.Sep
open Go
variable {μ : Prop}
theorem letter17_82   : Spec μ Tryz.prog 130 #[.int .i32 82] [] fun v Δ => v = .bool true ∧ Δ = [] := by
 refine Spec.of_body (n := 17) Tryz.func130 rfl rfl rfl fun w0 S0 O0 => ?_
 show WC _ _ _ _ _ _ [(0, .int .i32 82)] []
 refine WC.seq ?_
 refine WC.region ?_
 refine WL.quiet (Qt.assign rfl) rfl rfl ?_
 refine WL.nil ?_
 refine WX.next ?_
 refine WC.seq ?_
 refine WC.region ?_
 refine WL.quiet (Qt.move rfl) rfl rfl ?_
 refine WL.quiet (Qt.geq rfl rfl) rfl rfl ?_
 refine WL.quiet (Qt.move rfl) rfl rfl ?_
 refine WL.skipG 2 true false rfl 5 rfl rfl rfl rfl ?_
 refine WL.skipG 2 true false rfl 5 rfl rfl rfl rfl ?_
 refine WL.quiet (Qt.pickF rfl rfl) rfl rfl ?_
 refine WL.quiet (Qt.move rfl) rfl rfl ?_
 refine WL.quietG 6 false rfl 9 rfl rfl (Qt.move rfl) rfl ?_
 refine WL.quietG 6 false rfl 9 rfl rfl (Qt.geq rfl rfl) rfl ?_
 refine WL.quietG 6 false rfl 9 rfl rfl (Qt.move rfl) rfl ?_
 refine WL.quietG 9 true rfl 12 rfl rfl (Qt.move rfl) rfl ?_
 refine WL.quietG 9 true rfl 12 rfl rfl (Qt.leq rfl rfl) rfl ?_
 refine WL.quietG 6 false rfl 9 rfl rfl (Qt.pickT rfl rfl) rfl ?_
 refine WL.quiet (Qt.pickF rfl rfl) rfl rfl ?_
 refine WL.quiet (Qt.assign rfl) rfl rfl ?_
 refine WL.nil ?_
 refine WX.next ?_
 refine WC.ret ?_
 refine WX.ret1 (.nil) rfl rfl ?_
 exact ⟨rfl, rfl⟩

end Go.Proofs.YtolggjmgfijjfaaGreatDoor.Sep

/- A walk, printed by gen.py out of hints. -/
namespace Go.Proofs.YtolggjmgfijjfaaGreatDoor.Sep
open Go
variable {μ : Prop}
theorem isName17_82   : Spec μ Tryz.prog 117 #[.string (⟨#[82]⟩ : ByteArray)] [] fun v Δ => v = .bool true ∧ Δ = [] := by
 refine Spec.of_body (n := 37) Tryz.func117 rfl rfl rfl fun w0 S0 O0 => ?_
 show WC _ _ _ _ _ _ [(0, .string (⟨#[82]⟩ : ByteArray))] []
 refine WC.seq ?_
 refine WC.region ?_
 refine WL.quiet (Qt.assign rfl) rfl rfl ?_
 refine WL.nil ?_
 refine WX.next ?_
 refine WC.seq ?_
 refine WC.seq ?_
 refine WC.region ?_
 refine WL.quiet (Qt.move rfl) rfl rfl ?_
 refine WL.quiet (Qt.to (Qt.seql rfl rfl) (congrArg Value.bool (decide_eq_false (fun h => absurd (congrArg ByteArray.size h) (by decide))))) rfl rfl ?_
 refine WL.quiet (Qt.move rfl) rfl rfl ?_
 refine WL.quietG 2 false rfl 7 rfl rfl (Qt.move rfl) rfl ?_
 refine WL.quietG 2 false rfl 7 rfl rfl (Qt.lenStr Tryz.underlying9 rfl) rfl ?_
 refine WL.quietG 2 false rfl 7 rfl rfl (Qt.gtr rfl rfl) rfl ?_
 refine WL.quiet (Qt.pickF rfl rfl) rfl rfl ?_
 refine WL.nil ?_
 refine WX.next ?_
 refine WC.no rfl ?_
 refine WC.skip ?_
 refine WX.next ?_
 refine WC.seq ?_
 refine WC.seq ?_
 refine WC.region ?_
 refine WL.quiet (Qt.move rfl) rfl rfl ?_
 refine WL.loud (.nil) (Ld.rangeStr Tryz.underlying9 rfl) trivial rfl ?_
 rintro _ _ ⟨b_1, rfl, rfl⟩
 refine WL.nil ?_
 refine WX.next ?_
 refine WC.block ?_
 refine WC.unroll 2 ?_
 refine WR.one ?_
 refine WC.seq ?_
 refine WC.region ?_
 refine WL.loud (.take 0 rfl (.nil)) (Ld.nextStr (pos := 0) (c := 82) rfl (by decide) (decode_ascii _ _ (by decide) (by decide))) trivial rfl ?_
 rintro _ _ ⟨rfl, rfl⟩
 refine WL.quiet (Qt.extract rfl rfl) rfl rfl ?_
 refine WL.nil ?_
 refine WX.next ?_
 refine WC.seq ?_
 refine WC.yes rfl ?_
 refine WC.skip ?_
 refine WX.next ?_
 refine WC.block ?_
 refine WC.seq ?_
 refine WC.region ?_
 refine WL.quiet (Qt.extract rfl rfl) rfl rfl ?_
 refine WL.quiet (Qt.extract rfl rfl) rfl rfl ?_
 refine WL.quiet (Qt.assign rfl) rfl rfl ?_
 refine WL.quiet (Qt.assign rfl) rfl rfl ?_
 refine WL.nil ?_
 refine WX.next ?_
 refine WC.seq ?_
 refine WC.region ?_
 refine WL.quiet (Qt.move rfl) rfl rfl ?_
 refine WL.call (.nil) (Cl.func cb130 rfl) (letter17_82) trivial rfl ?_
 rintro _ _ ⟨rfl, rfl⟩
 refine WL.quiet (Qt.not rfl) rfl rfl ?_
 refine WL.quiet (Qt.move rfl) rfl rfl ?_
 refine WL.skipG 3 true false rfl 21 rfl rfl rfl rfl ?_
 refine WL.skipG 3 true false rfl 21 rfl rfl rfl rfl ?_
 refine WL.skipG 3 true false rfl 21 rfl rfl rfl rfl ?_
 refine WL.skipU 6 false rfl 24 rfl rfl rfl ?_
 refine WL.skipU 6 false rfl 24 rfl rfl rfl ?_
 refine WL.skipU 6 false rfl 24 rfl rfl rfl ?_
 refine WL.skipU 9 true rfl 27 rfl rfl rfl ?_
 refine WL.skipU 9 true rfl 27 rfl rfl rfl ?_
 refine WL.skipU 9 true rfl 27 rfl rfl rfl ?_
 refine WL.skipU 12 false rfl 30 rfl rfl rfl ?_
 refine WL.skipU 12 false rfl 30 rfl rfl rfl ?_
 refine WL.skipU 9 true rfl 27 rfl rfl rfl ?_
 refine WL.skipU 6 false rfl 24 rfl rfl rfl ?_
 refine WL.skipG 3 true false rfl 21 rfl rfl rfl rfl ?_
 refine WL.quiet (Qt.pickF rfl rfl) rfl rfl ?_
 refine WL.nil ?_
 refine WX.next ?_
 refine WC.no rfl ?_
 refine WC.skip ?_
 refine WX.block_end ?_
 refine WX.again ?_
 refine WR.one ?_
 refine WC.seq ?_
 refine WC.region ?_
 refine WL.loud (.take 0 rfl (.nil)) (Ld.nextStrEnd rfl (by decide)) trivial rfl ?_
 rintro _ _ ⟨rfl, rfl⟩
 refine WL.quiet (Qt.extract rfl rfl) rfl rfl ?_
 refine WL.nil ?_
 refine WX.next ?_
 refine WC.seq ?_
 refine WC.no rfl ?_
 refine WC.exit ?_
 refine WX.pass_exit ?_
 refine WX.pass_exit ?_
 refine WX.block_exit ?_
 refine WX.next ?_
 refine WC.seq ?_
 refine WC.region ?_
 refine WL.quiet (Qt.assign rfl) rfl rfl ?_
 refine WL.nil ?_
 refine WX.next ?_
 refine WC.ret ?_
 refine WX.ret1 (.nil) rfl rfl ?_
 exact ⟨rfl, rfl⟩

end Go.Proofs.YtolggjmgfijjfaaGreatDoor.Sep

/- A walk, printed by gen.py out of hints. -/
namespace Go.Proofs.YtolggjmgfijjfaaGreatDoor.Sep
open Go
variable {μ : Prop}
theorem rung17W (A0 A1 A2 : Option Addr) (n0 c0 c1 c2 : Nat)  : Spec μ Tryz.prog 91 #[.agg [.int .i64 2, .int .i64 1, .int .i64 0, .int .i64 0].toArray, .slice A0 n0 c0, .agg [.string (⟨#[]⟩ : ByteArray), .slice A1 2 c1, .slice A2 1 c2, .string (⟨#[]⟩ : ByteArray)].toArray] [rd kContact A1 c1 ex17, rd kCoil A2 c2 co17] fun v Δ => v = .int .i64 0 ∧ Δ = [] := by
 refine Spec.of_body (n := 90) Tryz.func91 rfl rfl rfl fun w0 S0 O0 => ?_
 show WC _ _ _ _ _ _ [(0, .agg [.int .i64 2, .int .i64 1, .int .i64 0, .int .i64 0].toArray), (1, .slice A0 n0 c0), (2, .agg [.string (⟨#[]⟩ : ByteArray), .slice A1 2 c1, .slice A2 1 c2, .string (⟨#[]⟩ : ByteArray)].toArray)] [rd kContact A1 c1 ex17, rd kCoil A2 c2 co17]
 refine WC.seq ?_
 refine WC.region ?_
 refine WL.loud (.nil) (Ld.box rfl rfl) trivial rfl ?_
 rintro _ _ ⟨b_1, rfl, rfl⟩
 refine WL.loud (.nil) (Ld.box rfl rfl) trivial rfl ?_
 rintro _ _ ⟨b_2, rfl, rfl⟩
 refine WL.quiet (Qt.assign rfl) rfl rfl ?_
 refine WL.nil ?_
 refine WX.next ?_
 refine WC.seq ?_
 refine WC.seq ?_
 refine WC.region ?_
 refine WL.quiet (Qt.fieldAddrB tf25_0 rfl) rfl rfl ?_
 refine WL.quiet (Qt.loadB 0 rfl ta9 rfl rfl) rfl rfl ?_
 refine WL.quiet (Qt.to (Qt.sneq rfl rfl) (congrArg Value.bool (decide_eq_false (fun h => h rfl)))) rfl rfl ?_
 refine WL.nil ?_
 refine WX.next ?_
 refine WC.no rfl ?_
 refine WC.skip ?_
 refine WX.next ?_
 refine WC.seq ?_
 refine WC.seq ?_
 refine WC.region ?_
 refine WL.quiet (Qt.fieldAddrB tf25_1 rfl) rfl rfl ?_
 refine WL.quiet (Qt.loadB 0 rfl ta22 rfl rfl) rfl rfl ?_
 refine WL.quiet (Qt.lenS Tryz.underlying22 rfl) rfl rfl ?_
 refine WL.quiet (Qt.gtr rfl rfl) rfl rfl ?_
 refine WL.nil ?_
 refine WX.next ?_
 refine WC.no rfl ?_
 refine WC.skip ?_
 refine WX.next ?_
 refine WC.seq ?_
 refine WC.seq ?_
 refine WC.region ?_
 refine WL.quiet (Qt.fieldAddrB tf25_1 rfl) rfl rfl ?_
 refine WL.quiet (Qt.loadB 0 rfl ta22 rfl rfl) rfl rfl ?_
 refine WL.quiet (Qt.lenS Tryz.underlying22 rfl) rfl rfl ?_
 refine WL.quiet (Qt.move rfl) rfl rfl ?_
 refine WL.nil ?_
 refine WX.next ?_
 refine WC.block ?_
 refine WC.unroll 3 ?_
 refine WR.one ?_
 refine WC.seq ?_
 refine WC.region ?_
 refine WL.quiet (Qt.lss rfl rfl) rfl rfl ?_
 refine WL.nil ?_
 refine WX.next ?_
 refine WC.seq ?_
 refine WC.yes rfl ?_
 refine WC.skip ?_
 refine WX.next ?_
 refine WC.seq ?_
 refine WC.block ?_
 refine WC.seq ?_
 refine WC.region ?_
 have hj_1 : 0 < ex17.length := by decide
 refine WL.learn 2 rfl (rd_at 0 hj_1 (vContact _)) ?_
 rintro ⟨p_1, ⟨⟩⟩ hA_1
 refine WL.quiet (Qt.indexAddrE 0 hA_1 Tryz.underlying22 ti56 rfl rfl (by first | assumption | omega)) rfl rfl ?_
 refine WL.quiet (Qt.loadCA (p := p_1.add (0 * 5)) (o := 0) 0 rfl ta56 ti56 rfl rfl) rfl rfl ?_
 refine WL.loud (.nil) (Ld.alloc ti56 rfl) trivial rfl ?_
 rintro _ _ ⟨b_3, rfl, rfl⟩
 refine WL.loud (.take 0 rfl (.nil)) (Ld.store ti56 rfl rfl rfl rfl rfl rfl) trivial rfl ?_
 rintro _ _ rfl
 refine WL.nil ?_
 refine WX.next ?_
 refine WC.seq ?_
 refine WC.seq ?_
 refine WC.region ?_
 refine WL.quiet (Qt.loadBA 3 rfl ta58 ti58 rfl rfl) rfl rfl ?_
 refine WL.quiet (Qt.fieldAddrB tf56_0 rfl) rfl rfl ?_
 refine WL.quiet (Qt.loadB 0 rfl ta3 rfl rfl) rfl rfl ?_
 refine WL.quiet (Qt.fieldAddrB tf56_1 rfl) rfl rfl ?_
 refine WL.quiet (Qt.loadBA 0 rfl ta47 ti47 rfl rfl) rfl rfl ?_
 refine WL.call (.nil) (Cl.func cb119 rfl) (part17_000) trivial rfl ?_
 rintro _ _ ⟨rfl, rfl⟩
 refine WL.quiet (Qt.assign rfl) rfl rfl ?_
 refine WL.nil ?_
 refine WX.next ?_
 refine WC.seq ?_
 refine WC.region ?_
 refine WL.quiet (Qt.move rfl) rfl rfl ?_
 refine WL.quiet (Qt.neq rfl rfl) rfl rfl ?_
 refine WL.nil ?_
 refine WX.next ?_
 refine WC.no rfl ?_
 refine WC.skip ?_
 refine WX.next ?_
 refine WC.seq ?_
 refine WC.region ?_
 refine WL.quiet (Qt.fieldAddrB tf56_2 rfl) rfl rfl ?_
 refine WL.quiet (Qt.loadB 0 rfl ta9 rfl rfl) rfl rfl ?_
 refine WL.call (.nil) (Cl.func cb117 rfl) (isName17_76) trivial rfl ?_
 rintro _ _ ⟨rfl, rfl⟩
 refine WL.quiet (Qt.not rfl) rfl rfl ?_
 refine WL.quiet (Qt.move rfl) rfl rfl ?_
 refine WL.quietG 4 false rfl 49 rfl rfl (Qt.fieldAddrB tf56_3 rfl) rfl ?_
 refine WL.quietG 4 false rfl 49 rfl rfl (Qt.loadB 0 rfl ta9 rfl rfl) rfl ?_
 refine WL.call (.nil) (Cl.func cb117 rfl) (isName17_97) ⟨49, rfl, rfl⟩ rfl ?_
 rintro _ _ ⟨rfl, rfl⟩
 refine WL.quietG 4 false rfl 49 rfl rfl (Qt.not rfl) rfl ?_
 refine WL.quiet (Qt.pickF rfl rfl) rfl rfl ?_
 refine WL.nil ?_
 refine WX.next ?_
 refine WC.no rfl ?_
 refine WC.skip ?_
 refine WX.block_end ?_
 refine WX.next ?_
 refine WC.region ?_
 refine WL.quiet (Qt.to (v' := .int .i64 1) (Qt.add rfl rfl (by decide)) rfl) rfl rfl ?_
 refine WL.quiet (Qt.move rfl) rfl rfl ?_
 refine WL.nil ?_
 refine WX.again ?_
 refine WR.one ?_
 refine WC.seq ?_
 refine WC.region ?_
 refine WL.quiet (Qt.lss rfl rfl) rfl rfl ?_
 refine WL.nil ?_
 refine WX.next ?_
 refine WC.seq ?_
 refine WC.yes rfl ?_
 refine WC.skip ?_
 refine WX.next ?_
 refine WC.seq ?_
 refine WC.block ?_
 refine WC.seq ?_
 refine WC.region ?_
 have hj_2 : 1 < ex17.length := by decide
 refine WL.learn 4 rfl (rd_at 1 hj_2 (vContact _)) ?_
 rintro ⟨p_2, ⟨⟩⟩ hA_2
 refine WL.quiet (Qt.indexAddrE 1 hA_2 Tryz.underlying22 ti56 rfl rfl (by first | assumption | omega)) rfl rfl ?_
 refine WL.quiet (Qt.loadCA (p := p_2.add (1 * 5)) (o := 0) 0 rfl ta56 ti56 rfl rfl) rfl rfl ?_
 refine WL.loud (.nil) (Ld.alloc ti56 rfl) trivial rfl ?_
 rintro _ _ ⟨b_4, rfl, rfl⟩
 refine WL.loud (.take 0 rfl (.nil)) (Ld.store ti56 rfl rfl rfl rfl rfl rfl) trivial rfl ?_
 rintro _ _ rfl
 refine WL.nil ?_
 refine WX.next ?_
 refine WC.seq ?_
 refine WC.seq ?_
 refine WC.region ?_
 refine WL.quiet (Qt.loadBA 5 rfl ta58 ti58 rfl rfl) rfl rfl ?_
 refine WL.quiet (Qt.fieldAddrB tf56_0 rfl) rfl rfl ?_
 refine WL.quiet (Qt.loadB 0 rfl ta3 rfl rfl) rfl rfl ?_
 refine WL.quiet (Qt.fieldAddrB tf56_1 rfl) rfl rfl ?_
 refine WL.quiet (Qt.loadBA 0 rfl ta47 ti47 rfl rfl) rfl rfl ?_
 refine WL.call (.nil) (Cl.func cb119 rfl) (part17_101) trivial rfl ?_
 rintro _ _ ⟨rfl, rfl⟩
 refine WL.quiet (Qt.assign rfl) rfl rfl ?_
 refine WL.nil ?_
 refine WX.next ?_
 refine WC.seq ?_
 refine WC.region ?_
 refine WL.quiet (Qt.move rfl) rfl rfl ?_
 refine WL.quiet (Qt.neq rfl rfl) rfl rfl ?_
 refine WL.nil ?_
 refine WX.next ?_
 refine WC.no rfl ?_
 refine WC.skip ?_
 refine WX.next ?_
 refine WC.seq ?_
 refine WC.region ?_
 refine WL.quiet (Qt.fieldAddrB tf56_2 rfl) rfl rfl ?_
 refine WL.quiet (Qt.loadB 0 rfl ta9 rfl rfl) rfl rfl ?_
 refine WL.call (.nil) (Cl.func cb117 rfl) (isName17_97) trivial rfl ?_
 rintro _ _ ⟨rfl, rfl⟩
 refine WL.quiet (Qt.not rfl) rfl rfl ?_
 refine WL.quiet (Qt.move rfl) rfl rfl ?_
 refine WL.quietG 4 false rfl 49 rfl rfl (Qt.fieldAddrB tf56_3 rfl) rfl ?_
 refine WL.quietG 4 false rfl 49 rfl rfl (Qt.loadB 0 rfl ta9 rfl rfl) rfl ?_
 refine WL.call (.nil) (Cl.func cb117 rfl) (isName17_82) ⟨49, rfl, rfl⟩ rfl ?_
 rintro _ _ ⟨rfl, rfl⟩
 refine WL.quietG 4 false rfl 49 rfl rfl (Qt.not rfl) rfl ?_
 refine WL.quiet (Qt.pickF rfl rfl) rfl rfl ?_
 refine WL.nil ?_
 refine WX.next ?_
 refine WC.no rfl ?_
 refine WC.skip ?_
 refine WX.block_end ?_
 refine WX.next ?_
 refine WC.region ?_
 refine WL.quiet (Qt.to (v' := .int .i64 2) (Qt.add rfl rfl (by decide)) rfl) rfl rfl ?_
 refine WL.quiet (Qt.move rfl) rfl rfl ?_
 refine WL.nil ?_
 refine WX.again ?_
 refine WR.one ?_
 refine WC.seq ?_
 refine WC.region ?_
 refine WL.quiet (Qt.lss rfl rfl) rfl rfl ?_
 refine WL.nil ?_
 refine WX.next ?_
 refine WC.seq ?_
 refine WC.no rfl ?_
 refine WC.exit ?_
 refine WX.pass_exit ?_
 refine WX.pass_exit ?_
 refine WX.block_exit ?_
 refine WX.next ?_
 refine WC.seq ?_
 refine WC.seq ?_
 refine WC.region ?_
 refine WL.quiet (Qt.fieldAddrB tf25_2 rfl) rfl rfl ?_
 refine WL.quiet (Qt.loadB 4 rfl ta23 rfl rfl) rfl rfl ?_
 refine WL.quiet (Qt.lenS Tryz.underlying23 rfl) rfl rfl ?_
 refine WL.quiet (Qt.gtr rfl rfl) rfl rfl ?_
 refine WL.nil ?_
 refine WX.next ?_
 refine WC.no rfl ?_
 refine WC.skip ?_
 refine WX.next ?_
 refine WC.seq ?_
 refine WC.seq ?_
 refine WC.region ?_
 refine WL.quiet (Qt.fieldAddrB tf25_2 rfl) rfl rfl ?_
 refine WL.quiet (Qt.loadB 4 rfl ta23 rfl rfl) rfl rfl ?_
 refine WL.quiet (Qt.lenS Tryz.underlying23 rfl) rfl rfl ?_
 refine WL.quiet (Qt.move rfl) rfl rfl ?_
 refine WL.nil ?_
 refine WX.next ?_
 refine WC.block ?_
 refine WC.unroll 2 ?_
 refine WR.one ?_
 refine WC.seq ?_
 refine WC.region ?_
 refine WL.quiet (Qt.lss rfl rfl) rfl rfl ?_
 refine WL.nil ?_
 refine WX.next ?_
 refine WC.seq ?_
 refine WC.yes rfl ?_
 refine WC.skip ?_
 refine WX.next ?_
 refine WC.seq ?_
 refine WC.block ?_
 refine WC.seq ?_
 refine WC.region ?_
 have hj_3 : 0 < co17.length := by decide
 refine WL.learn 7 rfl (rd_at 0 hj_3 (vCoil _)) ?_
 rintro ⟨p_3, ⟨⟩⟩ hA_3
 refine WL.quiet (Qt.indexAddrE 0 hA_3 Tryz.underlying23 ti104 rfl rfl (by first | assumption | omega)) rfl rfl ?_
 refine WL.quiet (Qt.loadCA (p := p_3.add (0 * 3)) (o := 0) 0 rfl ta104 ti104 rfl rfl) rfl rfl ?_
 refine WL.loud (.nil) (Ld.alloc ti104 rfl) trivial rfl ?_
 rintro _ _ ⟨b_5, rfl, rfl⟩
 refine WL.loud (.take 0 rfl (.nil)) (Ld.store ti104 rfl rfl rfl rfl rfl rfl) trivial rfl ?_
 rintro _ _ rfl
 refine WL.nil ?_
 refine WX.next ?_
 refine WC.seq ?_
 refine WC.seq ?_
 refine WC.region ?_
 refine WL.quiet (Qt.loadBA 7 rfl ta58 ti58 rfl rfl) rfl rfl ?_
 refine WL.quiet (Qt.fieldAddrB tf104_0 rfl) rfl rfl ?_
 refine WL.quiet (Qt.loadB 0 rfl ta3 rfl rfl) rfl rfl ?_
 refine WL.quiet (Qt.fieldAddrB tf104_1 rfl) rfl rfl ?_
 refine WL.quiet (Qt.loadBA 0 rfl ta47 ti47 rfl rfl) rfl rfl ?_
 refine WL.call (.nil) (Cl.func cb119 rfl) (part17_010) trivial rfl ?_
 rintro _ _ ⟨rfl, rfl⟩
 refine WL.quiet (Qt.assign rfl) rfl rfl ?_
 refine WL.nil ?_
 refine WX.next ?_
 refine WC.seq ?_
 refine WC.region ?_
 refine WL.quiet (Qt.move rfl) rfl rfl ?_
 refine WL.quiet (Qt.neq rfl rfl) rfl rfl ?_
 refine WL.nil ?_
 refine WX.next ?_
 refine WC.no rfl ?_
 refine WC.skip ?_
 refine WX.next ?_
 refine WC.seq ?_
 refine WC.region ?_
 refine WL.quiet (Qt.fieldAddrB tf104_1 rfl) rfl rfl ?_
 refine WL.quiet (Qt.fieldAddrB tf47_0 rfl) rfl rfl ?_
 refine WL.quiet (Qt.loadB 0 rfl ta3 rfl rfl) rfl rfl ?_
 refine WL.quiet (Qt.eql rfl rfl) rfl rfl ?_
 refine WL.nil ?_
 refine WX.next ?_
 refine WC.no rfl ?_
 refine WC.skip ?_
 refine WX.block_end ?_
 refine WX.next ?_
 refine WC.region ?_
 refine WL.quiet (Qt.to (v' := .int .i64 1) (Qt.add rfl rfl (by decide)) rfl) rfl rfl ?_
 refine WL.quiet (Qt.move rfl) rfl rfl ?_
 refine WL.nil ?_
 refine WX.again ?_
 refine WR.one ?_
 refine WC.seq ?_
 refine WC.region ?_
 refine WL.quiet (Qt.lss rfl rfl) rfl rfl ?_
 refine WL.nil ?_
 refine WX.next ?_
 refine WC.seq ?_
 refine WC.no rfl ?_
 refine WC.exit ?_
 refine WX.pass_exit ?_
 refine WX.pass_exit ?_
 refine WX.block_exit ?_
 refine WX.next ?_
 refine WC.seq ?_
 refine WC.seq ?_
 refine WC.region ?_
 refine WL.quiet (Qt.fieldAddrB tf25_3 rfl) rfl rfl ?_
 refine WL.quiet (Qt.loadB 6 rfl ta9 rfl rfl) rfl rfl ?_
 refine WL.quiet (Qt.to (Qt.sneq rfl rfl) (congrArg Value.bool (decide_eq_false (fun h => h rfl)))) rfl rfl ?_
 refine WL.quiet (Qt.move rfl) rfl rfl ?_
 refine WL.skipG 3 true false rfl 84 rfl rfl rfl rfl ?_
 refine WL.skipG 3 true false rfl 84 rfl rfl rfl rfl ?_
 refine WL.skipG 3 true false rfl 84 rfl rfl rfl rfl ?_
 refine WL.skipG 3 true false rfl 84 rfl rfl rfl rfl ?_
 refine WL.quiet (Qt.pickF rfl rfl) rfl rfl ?_
 refine WL.nil ?_
 refine WX.next ?_
 refine WC.no rfl ?_
 refine WC.skip ?_
 refine WX.next ?_
 refine WC.seq ?_
 refine WC.region ?_
 refine WL.quiet (Qt.assign rfl) rfl rfl ?_
 refine WL.nil ?_
 refine WX.next ?_
 refine WC.ret ?_
 refine WX.ret1 (.nil) rfl rfl ?_
 exact ⟨rfl, rfl⟩

end Go.Proofs.YtolggjmgfijjfaaGreatDoor.Sep

/- A walk, printed by gen.py out of hints. -/
namespace Go.Proofs.YtolggjmgfijjfaaGreatDoor.Sep
open Go
variable {μ : Prop}
theorem check17W (p : Addr) (A1 A2 : Option Addr) (c1 c2 : Nat)  : Spec μ Tryz.prog 63 #[.agg [.int .i64 2, .int .i64 1, .int .i64 0, .slice (some p) 1 1].toArray] [cellsAt p [.string (⟨#[]⟩ : ByteArray), .slice A1 2 c1, .slice A2 1 c2, .string (⟨#[]⟩ : ByteArray)], rd kContact A1 c1 ex17, rd kCoil A2 c2 co17] fun v Δ => v = .tuple #[.int .i64 1, .int .i64 0] ∧ Δ = [] := by
 refine Spec.of_body (n := 67) Tryz.func63 rfl rfl rfl fun w0 S0 O0 => ?_
 show WC _ _ _ _ _ _ [(0, .agg [.int .i64 2, .int .i64 1, .int .i64 0, .slice (some p) 1 1].toArray)] [cellsAt p [.string (⟨#[]⟩ : ByteArray), .slice A1 2 c1, .slice A2 1 c2, .string (⟨#[]⟩ : ByteArray)], rd kContact A1 c1 ex17, rd kCoil A2 c2 co17]
 refine WC.seq ?_
 refine WC.region ?_
 refine WL.loud (.nil) (Ld.box rfl rfl) trivial rfl ?_
 rintro _ _ ⟨b_1, rfl, rfl⟩
 refine WL.quiet (Qt.assign rfl) rfl rfl ?_
 refine WL.quiet (Qt.assign rfl) rfl rfl ?_
 refine WL.nil ?_
 refine WX.next ?_
 refine WC.seq ?_
 refine WC.region ?_
 refine WL.quiet (Qt.loadBA 0 rfl ta66 ti66 rfl rfl) rfl rfl ?_
 refine WL.call (.nil) (Cl.func cb89 rfl) (sizes17 _) trivial rfl ?_
 rintro _ _ ⟨rfl, rfl⟩
 refine WL.loud (.nil) (Ld.alloc ti58 rfl) trivial rfl ?_
 rintro _ _ ⟨b_2, rfl, rfl⟩
 refine WL.loud (.take 0 rfl (.nil)) (Ld.store ti58 rfl rfl rfl rfl rfl rfl) trivial rfl ?_
 rintro _ _ rfl
 refine WL.nil ?_
 refine WX.next ?_
 refine WC.seq ?_
 refine WC.block ?_
 refine WC.seq ?_
 refine WC.region ?_
 refine WL.quiet (Qt.loadBA 0 rfl ta58 ti58 rfl rfl) rfl rfl ?_
 refine WL.call (.nil) (Cl.func cb90 rfl) (checkSize17) trivial rfl ?_
 rintro _ _ ⟨rfl, rfl⟩
 refine WL.quiet (Qt.neq rfl rfl) rfl rfl ?_
 refine WL.quiet (Qt.assign rfl) rfl rfl ?_
 refine WL.nil ?_
 refine WX.next ?_
 refine WC.no rfl ?_
 refine WC.seq ?_
 refine WC.region ?_
 refine WL.quiet (Qt.fieldAddrB tf66_3 rfl) rfl rfl ?_
 refine WL.quiet (Qt.loadB 1 rfl ta64 rfl rfl) rfl rfl ?_
 refine WL.quiet (Qt.lenS Tryz.underlying64 rfl) rfl rfl ?_
 refine WL.quiet (Qt.gtr rfl rfl) rfl rfl ?_
 refine WL.quiet (Qt.assign rfl) rfl rfl ?_
 refine WL.nil ?_
 refine WX.next ?_
 refine WC.no rfl ?_
 refine WC.skip ?_
 refine WX.block_end ?_
 refine WX.next ?_
 refine WC.seq ?_
 refine WC.seq ?_
 refine WC.region ?_
 refine WL.quiet (Qt.fieldAddrB tf66_3 rfl) rfl rfl ?_
 refine WL.quiet (Qt.loadB 1 rfl ta64 rfl rfl) rfl rfl ?_
 refine WL.quiet (Qt.lenS Tryz.underlying64 rfl) rfl rfl ?_
 refine WL.quiet (Qt.move rfl) rfl rfl ?_
 refine WL.nil ?_
 refine WX.next ?_
 refine WC.block ?_
 refine WC.unroll 2 ?_
 refine WR.one ?_
 refine WC.seq ?_
 refine WC.region ?_
 refine WL.quiet (Qt.lss rfl rfl) rfl rfl ?_
 refine WL.nil ?_
 refine WX.next ?_
 refine WC.seq ?_
 refine WC.yes rfl ?_
 refine WC.skip ?_
 refine WX.next ?_
 refine WC.seq ?_
 refine WC.block ?_
 refine WC.seq ?_
 refine WC.region ?_
 refine WL.quiet (Qt.move rfl) rfl rfl ?_
 refine WL.quiet (Qt.indexAddrE 0 rfl Tryz.underlying64 ti25 rfl rfl (by decide)) rfl rfl ?_
 refine WL.quiet (Qt.loadCA (p := p) (o := 0) 2 rfl ta25 ti25 rfl rfl) rfl rfl ?_
 refine WL.loud (.nil) (Ld.alloc ti25 rfl) trivial rfl ?_
 rintro _ _ ⟨b_3, rfl, rfl⟩
 refine WL.quiet (Qt.assign rfl) rfl rfl ?_
 refine WL.loud (.take 0 rfl (.nil)) (Ld.store ti25 rfl rfl rfl rfl rfl rfl) trivial rfl ?_
 rintro _ _ rfl
 refine WL.nil ?_
 refine WX.next ?_
 refine WC.seq ?_
 refine WC.calm (Calm.then (Calm.inBlock (Calm.then (Calm.then (Calm.inBlock (Calm.then (calm_FQ _ _))))))) fun hC => ?_
 refine WC.draw (Γq := [blk b_3 25 [.string (⟨#[]⟩ : ByteArray), .slice A1 2 c1, .slice A2 1 c2, .string (⟨#[]⟩ : ByteArray)], blk b_2 58 [.int .i64 2, .int .i64 1, .int .i64 0, .int .i64 0], blk b_1 66 [.int .i64 2, .int .i64 1, .int .i64 0, .slice (some p) 1 1], cellsAt p [.string (⟨#[]⟩ : ByteArray), .slice A1 2 c1, .slice A2 1 c2, .string (⟨#[]⟩ : ByteArray)], rd kContact A1 c1 ex17, rd kCoil A2 c2 co17]) [0, 1, 2, 3, 4, 5, 6] mixed ?_
 refine WA.named (.take 0 rfl (.take 0 rfl (.take 0 rfl (.u 0 rfl (.u 1 rfl (.u 2 rfl (.nil))))))) fun sl_1 => ?_
 refine WA.tk 0 (by kernel_rfl) rfl hC (Qt.loadBA 1 rfl ta58 ti58 rfl rfl) trivial rfl sl_1 ?_
 refine WA.tk 1 (by kernel_rfl) rfl hC (Qt.fieldAddrB tf66_3 rfl) trivial rfl sl_1 ?_
 refine WA.tk 2 (by kernel_rfl) rfl hC (Qt.loadB 2 rfl ta64 rfl rfl) trivial rfl sl_1 ?_
 refine WA.tk 3 (by kernel_rfl) rfl hC (Qt.move rfl) trivial rfl sl_1 ?_
 refine WA.tk 4 (by kernel_rfl) rfl hC (Qt.cutHigh (j := 0) Tryz.underlying64 ti25 rfl rfl (by omega)) trivial rfl sl_1 ?_
 refine WA.tk 5 (by kernel_rfl) rfl hC (Qt.loadBA 0 rfl ta25 ti25 rfl rfl) trivial rfl sl_1 ?_
 refine WA.one 6 (by kernel_rfl) ?_
 refine WO.call rfl (.u 4 rfl (.u 5 rfl (.nil))) (Cl.func cb91 rfl) (rung17W _ _ _ _ _ _ _) trivial rfl (by rintro _ _ ⟨rfl, rfl⟩; exact ⟨_, (.take 0 rfl (.take 0 rfl (.take 0 rfl (.u 0 rfl (.u 1 rfl (.u 2 rfl (.nil)))))))⟩) ?_
 rintro _ _ ⟨rfl, rfl⟩
 refine WA.phase (K' := [0, 1, 2, 3, 4, 5, 6, 7]) (Γq' := [blk b_3 25 [.string (⟨#[]⟩ : ByteArray), .slice A1 2 c1, .slice A2 1 c2, .string (⟨#[]⟩ : ByteArray)], blk b_2 58 [.int .i64 2, .int .i64 1, .int .i64 0, .int .i64 0], blk b_1 66 [.int .i64 2, .int .i64 1, .int .i64 0, .slice (some p) 1 1], cellsAt p [.string (⟨#[]⟩ : ByteArray), .slice A1 2 c1, .slice A2 1 c2, .string (⟨#[]⟩ : ByteArray)], rd kContact A1 c1 ex17, rd kCoil A2 c2 co17]) (by kernel_rfl) ?_
 refine WA.tk 7 (by kernel_rfl) rfl hC (Qt.assign rfl) trivial rfl sl_1 ?_
 refine WA.done (by kernel_rfl) ?_
 refine WX.next ?_
 refine WC.seq ?_
 refine WC.region ?_
 refine WL.quiet (Qt.move rfl) rfl rfl ?_
 refine WL.quiet (Qt.neq rfl rfl) rfl rfl ?_
 refine WL.nil ?_
 refine WX.next ?_
 refine WC.no rfl ?_
 refine WC.skip ?_
 refine WX.block_end ?_
 refine WX.next ?_
 refine WC.region ?_
 refine WL.quiet (Qt.to (v' := .int .i64 1) (Qt.add rfl rfl (by decide)) rfl) rfl rfl ?_
 refine WL.quiet (Qt.move rfl) rfl rfl ?_
 refine WL.nil ?_
 refine WX.again ?_
 refine WR.one ?_
 refine WC.seq ?_
 refine WC.region ?_
 refine WL.quiet (Qt.lss rfl rfl) rfl rfl ?_
 refine WL.nil ?_
 refine WX.next ?_
 refine WC.seq ?_
 refine WC.no rfl ?_
 refine WC.exit ?_
 refine WX.pass_exit ?_
 refine WX.pass_exit ?_
 refine WX.block_exit ?_
 refine WX.next ?_
 refine WC.seq ?_
 refine WC.seq ?_
 refine WC.region ?_
 refine WL.quiet (Qt.fieldAddrB tf66_3 rfl) rfl rfl ?_
 refine WL.quiet (Qt.loadB 2 rfl ta64 rfl rfl) rfl rfl ?_
 refine WL.quiet (Qt.lenS Tryz.underlying64 rfl) rfl rfl ?_
 refine WL.quiet (Qt.move rfl) rfl rfl ?_
 refine WL.nil ?_
 refine WX.next ?_
 refine WC.block ?_
 refine WC.unroll 2 ?_
 refine WR.one ?_
 refine WC.seq ?_
 refine WC.region ?_
 refine WL.quiet (Qt.lss rfl rfl) rfl rfl ?_
 refine WL.nil ?_
 refine WX.next ?_
 refine WC.seq ?_
 refine WC.yes rfl ?_
 refine WC.skip ?_
 refine WX.next ?_
 refine WC.seq ?_
 refine WC.block ?_
 refine WC.seq ?_
 refine WC.region ?_
 refine WL.quiet (Qt.move rfl) rfl rfl ?_
 refine WL.quiet (Qt.indexAddrE 0 rfl Tryz.underlying64 ti25 rfl rfl (by decide)) rfl rfl ?_
 refine WL.quiet (Qt.loadCA (p := p) (o := 0) 3 rfl ta25 ti25 rfl rfl) rfl rfl ?_
 refine WL.loud (.nil) (Ld.alloc ti25 rfl) trivial rfl ?_
 rintro _ _ ⟨b_4, rfl, rfl⟩
 refine WL.quiet (Qt.assign rfl) rfl rfl ?_
 refine WL.loud (.take 0 rfl (.nil)) (Ld.store ti25 rfl rfl rfl rfl rfl rfl) trivial rfl ?_
 rintro _ _ rfl
 refine WL.nil ?_
 refine WX.next ?_
 refine WC.seq ?_
 refine WC.region ?_
 refine WL.quiet (Qt.fieldAddrB tf25_3 rfl) rfl rfl ?_
 refine WL.quiet (Qt.loadB 0 rfl ta9 rfl rfl) rfl rfl ?_
 refine WL.quiet (Qt.to (Qt.sneq rfl rfl) (congrArg Value.bool (decide_eq_false (fun h => h rfl)))) rfl rfl ?_
 refine WL.quiet (Qt.move rfl) rfl rfl ?_
 refine WL.skipG 3 true false rfl 52 rfl rfl rfl rfl ?_
 refine WL.skipG 3 true false rfl 52 rfl rfl rfl rfl ?_
 refine WL.skipG 3 true false rfl 52 rfl rfl rfl rfl ?_
 refine WL.skipG 3 true false rfl 52 rfl rfl rfl rfl ?_
 refine WL.skipG 3 true false rfl 52 rfl rfl rfl rfl ?_
 refine WL.skipG 3 true false rfl 52 rfl rfl rfl rfl ?_
 refine WL.skipG 3 true false rfl 52 rfl rfl rfl rfl ?_
 refine WL.skipG 3 true false rfl 52 rfl rfl rfl rfl ?_
 refine WL.quiet (Qt.pickF rfl rfl) rfl rfl ?_
 refine WL.nil ?_
 refine WX.next ?_
 refine WC.no rfl ?_
 refine WC.skip ?_
 refine WX.block_end ?_
 refine WX.next ?_
 refine WC.region ?_
 refine WL.quiet (Qt.to (v' := .int .i64 1) (Qt.add rfl rfl (by decide)) rfl) rfl rfl ?_
 refine WL.quiet (Qt.move rfl) rfl rfl ?_
 refine WL.nil ?_
 refine WX.again ?_
 refine WR.one ?_
 refine WC.seq ?_
 refine WC.region ?_
 refine WL.quiet (Qt.lss rfl rfl) rfl rfl ?_
 refine WL.nil ?_
 refine WX.next ?_
 refine WC.seq ?_
 refine WC.no rfl ?_
 refine WC.exit ?_
 refine WX.pass_exit ?_
 refine WX.pass_exit ?_
 refine WX.block_exit ?_
 refine WX.next ?_
 refine WC.seq ?_
 refine WC.region ?_
 refine WL.quiet (Qt.fieldAddrB tf66_3 rfl) rfl rfl ?_
 refine WL.quiet (Qt.loadB 3 rfl ta64 rfl rfl) rfl rfl ?_
 refine WL.quiet (Qt.lenS Tryz.underlying64 rfl) rfl rfl ?_
 refine WL.quiet (Qt.assign rfl) rfl rfl ?_
 refine WL.quiet (Qt.assign rfl) rfl rfl ?_
 refine WL.nil ?_
 refine WX.next ?_
 refine WC.ret ?_
 refine WX.ret2 (.nil) rfl rfl rfl ?_
 exact ⟨rfl, rfl⟩

end Go.Proofs.YtolggjmgfijjfaaGreatDoor.Sep

/- A walk, printed by gen.py out of hints. -/
namespace Go.Proofs.YtolggjmgfijjfaaGreatDoor.Sep
open Go
variable {μ : Prop}
theorem nodesW (cs : List Contact) (lb jp : ByteArray) (A B : Option Addr) (c nB d : Nat) (hlen : cs.length ≤ 100000) : Spec μ Tryz.prog 67 #[.agg [.string lb, .slice A cs.length c, .slice B nB d, .string jp].toArray] [rd kContact A c cs] fun v Δ => ∃ A1 c1, v = .slice A1 (nodesF cs).length c1 ∧ Δ = [row kStr 9 A1 c1 (nodesF cs)] := by
 refine Spec.of_body (n := 42) Tryz.func67 rfl rfl rfl fun w0 S0 O0 => ?_
 show WC _ _ _ _ _ _ [(0, .agg [.string lb, .slice A cs.length c, .slice B nB d, .string jp].toArray)] [rd kContact A c cs]
 refine WC.learn (Z := Unit) (Δ := fun _ => []) (φ := fun _ => cs.length ≤ c ∧ c ≤ 9223372036854775807) 0 rfl (fun S w h => ⟨(), rd_bounds h, nofacts⟩) ?_
 rintro _ ⟨hb_1, hb_2⟩
 refine WC.seq ?_
 refine WC.region ?_
 refine WL.loud (.nil) (Ld.box rfl rfl) trivial rfl ?_
 rintro _ _ ⟨b_1, rfl, rfl⟩
 refine WL.quiet (Qt.assign rfl) rfl rfl ?_
 refine WL.nil ?_
 refine WX.next ?_
 refine WC.seq ?_
 refine WC.region ?_
 refine WL.loud (.nil) (Ld.buildSlice (zs := [.string (⟨#[]⟩ : ByteArray), .string (⟨#[]⟩ : ByteArray)]) Tryz.underlying105 ti9 rfl rfl (by kernel_rfl) rfl rfl) trivial rfl ?_
 rintro _ _ ⟨b_2, rfl, rfl⟩
 refine WL.turn (.take 0 rfl (.nil)) (blk_row (e := kStr) (U := []) [sL, sR] (fun F hF => nomatch hF) (fun S w h => Reps.append (xs := [sL]) (ys := [sR]) (l := [.string sL]) (m := [.string sR]) (Reps.one rfl) (Reps.one rfl)) (by simp)) ?_
 rintro _ rfl
 refine WL.quiet (Qt.assign rfl) rfl rfl ?_
 refine WL.nil ?_
 refine WX.next ?_
 refine WC.seq ?_
 refine WC.region ?_
 refine WL.loud (.nil) (Ld.makeMap (E := strKey) (V := Value.bool)) trivial rfl ?_
 rintro _ _ ⟨b_3, rfl, rfl⟩
 refine WL.loud (.take 0 rfl (.nil)) (Ld.insert Tryz.underlying136 Tryz.underlying9 rfl rfl rfl) trivial rfl ?_
 rintro _ _ rfl
 refine WL.loud (.take 0 rfl (.nil)) (Ld.insert Tryz.underlying136 Tryz.underlying9 rfl rfl rfl) trivial rfl ?_
 rintro _ _ rfl
 rw [two_nodes]
 refine WL.quiet (Qt.move rfl) rfl rfl ?_
 refine WL.quiet (Qt.assign rfl) rfl rfl ?_
 refine WL.nil ?_
 refine WX.next ?_
 refine WC.seq ?_
 refine WC.seq ?_
 refine WC.region ?_
 refine WL.quiet (Qt.fieldAddrB tf25_1 rfl) rfl rfl ?_
 refine WL.quiet (Qt.loadB 2 rfl ta22 rfl rfl) rfl rfl ?_
 refine WL.quiet (Qt.lenS Tryz.underlying22 rfl) rfl rfl ?_
 refine WL.quiet (Qt.move rfl) rfl rfl ?_
 refine WL.nil ?_
 refine WX.next ?_
 refine WC.block ?_
 refine WC.loop (fun w0 : Nat × (Option Addr) × Nat × (List ByteArray) => [(2, .slice none 0 0), (3, .slice w0.2.1 w0.2.2.2.length w0.2.2.1), (4, .map (some b_3)), (13, .slice A cs.length c), (14, .int .i64 ((cs.length : Nat) : Int)), (15, .int .i64 ((w0.1 : Nat) : Int))]) (fun w0 => [mp strKey Value.bool b_3 (trues w0.2.2.2), row kStr 9 w0.2.1 w0.2.2.1 w0.2.2.2, blk b_1 25 [.string lb, .slice A cs.length c, .slice B nB d, .string jp], rd kContact A c cs]) (fun w0 => w0.1 ≤ cs.length ∧ w0.2.2.2 = nodesF (cs.take w0.1)) (fun w0 => cs.length - w0.1) (0, (some ⟨b_2, 0, none⟩), 2, [sL, sR]) ⟨Nat.zero_le _, rfl⟩ ⟨rfl, rfl, rfl, rfl, rfl, rfl, trivial⟩ (.take 0 rfl (.take 0 rfl (.take 0 rfl (.u 0 rfl (.nil))))) ?_
 rintro ⟨k, A1, c1, l⟩ ⟨hk, hl⟩
 try dsimp only at hk hl
 have hll := nodesF_len cs k hk
 rw [← hl] at hll
 show WC _ _ _ _ _ _ [(2, .slice none 0 0), (3, .slice A1 l.length c1), (4, .map (some b_3)), (13, .slice A cs.length c), (14, .int .i64 ((cs.length : Nat) : Int)), (15, .int .i64 ((k : Nat) : Int))] [mp strKey Value.bool b_3 (trues l), row kStr 9 A1 c1 l, blk b_1 25 [.string lb, .slice A cs.length c, .slice B nB d, .string jp], rd kContact A c cs]
 refine WC.seq ?_
 refine WC.region ?_
 refine WL.quiet (Qt.lss rfl rfl) rfl rfl ?_
 refine WL.nil ?_
 refine WX.next ?_
 refine WC.seq ?_
 refine WC.condD rfl (fun hc_1 => ?_) (fun hc_1 => ?_)
 ·
  refine WC.skip ?_
  refine WX.next ?_
  refine WC.seq ?_
  refine WC.block ?_
  refine WC.seq ?_
  refine WC.region ?_
  have hj_1 : k < cs.length := by omega
  refine WL.learn 3 rfl (rd_at k hj_1 (vContact _)) ?_
  rintro ⟨p_1, ⟨⟩⟩ hA_1
  refine WL.quiet (Qt.indexAddrE k hA_1 Tryz.underlying22 ti56 rfl rfl (by first | assumption | omega)) rfl rfl ?_
  refine WL.quiet (Qt.loadCA (p := p_1.add (k * 5)) (o := 0) 0 rfl ta56 ti56 rfl rfl) rfl rfl ?_
  refine WL.loud (.nil) (Ld.alloc ti56 rfl) trivial rfl ?_
  rintro _ _ ⟨b_4, rfl, rfl⟩
  refine WL.loud (.take 0 rfl (.nil)) (Ld.store ti56 rfl rfl rfl rfl rfl rfl) trivial rfl ?_
  rintro _ _ rfl
  refine WL.nil ?_
  refine WX.next ?_
  refine WC.seq ?_
  refine WC.region ?_
  refine WL.quiet (Qt.fieldAddrB tf56_2 rfl) rfl rfl ?_
  refine WL.quiet (Qt.loadB 0 rfl ta9 rfl rfl) rfl rfl ?_
  refine WL.quiet (Qt.fieldAddrB tf56_3 rfl) rfl rfl ?_
  refine WL.quiet (Qt.loadB 0 rfl ta9 rfl rfl) rfl rfl ?_
  refine WL.loud (.nil) (Ld.buildSlice (zs := [.string (⟨#[]⟩ : ByteArray), .string (⟨#[]⟩ : ByteArray)]) Tryz.underlying105 ti9 rfl rfl (by kernel_rfl) rfl rfl) trivial rfl ?_
  rintro _ _ ⟨b_5, rfl, rfl⟩
  refine WL.turn (.take 0 rfl (.nil)) (blk_row (e := kStr) (U := []) [cs[k].frm, cs[k].to] (fun F hF => nomatch hF) (fun S w h => Reps.append (xs := [cs[k].frm]) (ys := [cs[k].to]) (l := [.string cs[k].frm]) (m := [.string cs[k].to]) (Reps.one rfl) (Reps.one rfl)) (by simp)) ?_
  rintro _ rfl
  refine WL.turn (.take 0 rfl (.nil)) (freeze_row) ?_
  rintro _ rfl
  refine WL.quiet (Qt.lenS Tryz.underlying105 rfl) rfl rfl ?_
  refine WL.quiet (Qt.move rfl) rfl rfl ?_
  refine WL.nil ?_
  refine WX.next ?_
  refine WC.block ?_
  refine WC.loop (fun w0 : Nat × (Option Addr) × Nat × (List ByteArray) => [(2, .slice none 0 0), (3, .slice w0.2.1 w0.2.2.2.length w0.2.2.1), (4, .map (some b_3)), (13, .slice A cs.length c), (14, .int .i64 ((cs.length : Nat) : Int)), (15, .int .i64 ((k : Nat) : Int)), (16, .bool (decide (((k : Nat) : Int) < ((cs.length : Nat) : Int)))), (17, .pointer (some (p_1.add (k * 5)))), (18, .agg [.int .i64 (cs[k].kind), .int .i64 (cs[k].sp), .int .i64 (cs[k].n), .string (cs[k].frm), .string (cs[k].to)].toArray), (6, .pointer (some ⟨b_4, 0, none⟩)), (19, .pointer (some ⟨b_4, 3, none⟩)), (20, .string (cs[k].frm)), (21, .pointer (some ⟨b_4, 4, none⟩)), (22, .string (cs[k].to)), (23, .slice (some ⟨b_5, 0, none⟩) 2 2), (24, .int .i64 2), (25, .int .i64 ((w0.1 : Nat) : Int))]) (fun w0 => [rd kStr (some ⟨b_5, 0, none⟩) 2 [cs[k].frm, cs[k].to], blk b_4 56 [.int .i64 (cs[k].kind), .int .i64 (cs[k].sp), .int .i64 (cs[k].n), .string (cs[k].frm), .string (cs[k].to)], cellsAt (p_1.add (k * 5)) [.int .i64 (cs[k].kind), .int .i64 (cs[k].sp), .int .i64 (cs[k].n), .string (cs[k].frm), .string (cs[k].to)], mp strKey Value.bool b_3 (trues w0.2.2.2), row kStr 9 w0.2.1 w0.2.2.1 w0.2.2.2, blk b_1 25 [.string lb, .slice A cs.length c, .slice B nB d, .string jp], rd kContact A c cs]) (fun w0 => w0.1 ≤ 2 ∧ w0.2.2.2 = ([cs[k].frm, cs[k].to].take w0.1).foldl addN l) (fun w0 => 2 - w0.1) (0, A1, c1, l) ⟨by omega, rfl⟩ ⟨rfl, rfl, rfl, rfl, rfl, rfl, rfl, rfl, rfl, rfl, rfl, rfl, rfl, rfl, rfl, rfl, rfl, trivial⟩ (.u 0 rfl (.take 1 rfl (.u 1 rfl (.take 2 rfl (.take 2 rfl (.take 2 rfl (.u 2 rfl (.nil)))))))) ?_
  rintro ⟨q, A2, c2, l2⟩ ⟨hq, hl2⟩
  try dsimp only at hq hl2
  have hll2 := addN_two_len hl2 hq
  show WC _ _ _ _ _ _ [(2, .slice none 0 0), (3, .slice A2 l2.length c2), (4, .map (some b_3)), (13, .slice A cs.length c), (14, .int .i64 ((cs.length : Nat) : Int)), (15, .int .i64 ((k : Nat) : Int)), (16, .bool (decide (((k : Nat) : Int) < ((cs.length : Nat) : Int)))), (17, .pointer (some (p_1.add (k * 5)))), (18, .agg [.int .i64 (cs[k].kind), .int .i64 (cs[k].sp), .int .i64 (cs[k].n), .string (cs[k].frm), .string (cs[k].to)].toArray), (6, .pointer (some ⟨b_4, 0, none⟩)), (19, .pointer (some ⟨b_4, 3, none⟩)), (20, .string (cs[k].frm)), (21, .pointer (some ⟨b_4, 4, none⟩)), (22, .string (cs[k].to)), (23, .slice (some ⟨b_5, 0, none⟩) 2 2), (24, .int .i64 2), (25, .int .i64 ((q : Nat) : Int))] [rd kStr (some ⟨b_5, 0, none⟩) 2 [cs[k].frm, cs[k].to], blk b_4 56 [.int .i64 (cs[k].kind), .int .i64 (cs[k].sp), .int .i64 (cs[k].n), .string (cs[k].frm), .string (cs[k].to)], cellsAt (p_1.add (k * 5)) [.int .i64 (cs[k].kind), .int .i64 (cs[k].sp), .int .i64 (cs[k].n), .string (cs[k].frm), .string (cs[k].to)], mp strKey Value.bool b_3 (trues l2), row kStr 9 A2 c2 l2, blk b_1 25 [.string lb, .slice A cs.length c, .slice B nB d, .string jp], rd kContact A c cs]
  refine WC.seq ?_
  refine WC.region ?_
  refine WL.quiet (Qt.lss rfl rfl) rfl rfl ?_
  refine WL.nil ?_
  refine WX.next ?_
  refine WC.seq ?_
  refine WC.condD rfl (fun hc_2 => ?_) (fun hc_2 => ?_)
  ·
   refine WC.skip ?_
   refine WX.next ?_
   refine WC.seq ?_
   refine WC.block ?_
   refine WC.seq ?_
   have hab : q < [cs[k].frm, cs[k].to].length := by show q < 2; omega
   refine WC.region ?_
   have hj_2 : q < [cs[k].frm, cs[k].to].length := hab
   refine WL.learn 0 rfl (rd_at q hj_2 (vStr _)) ?_
   rintro ⟨p_2, ⟨⟩⟩ hA_2
   refine WL.quiet (Qt.indexAddrE q hA_2 Tryz.underlying105 ti9 rfl rfl (by first | assumption | omega)) rfl rfl ?_
   refine WL.quiet (Qt.loadC (p := p_2.add (q * 1)) (o := 0) 0 rfl ta9 rfl rfl) rfl rfl ?_
   refine WL.quiet (Qt.assign rfl) rfl rfl ?_
   refine WL.nil ?_
   refine WX.next ?_
   refine WC.seq ?_
   refine WC.region ?_
   refine WL.quiet (Qt.move rfl) rfl rfl ?_
   refine WL.quiet (Qt.move rfl) rfl rfl ?_
   refine WL.quiet (Qt.lookup (z := false) 4 rfl Tryz.underlying136 Tryz.underlying9 ti4 rfl rfl) rfl rfl ?_
   refine WL.quiet (Qt.not rfl) rfl rfl ?_
   refine WL.nil ?_
   refine WX.next ?_
   refine WC.cond rfl (fun hc_3 => ?_) (fun hc_3 => ?_)
   ·
    refine WC.seq ?_
    have hnew := look_no (k := [cs[k].frm, cs[k].to][q]) (ks := l2) (by simpa using hc_3)
    refine WC.region ?_
    refine WL.quiet (Qt.move rfl) rfl rfl ?_
    refine WL.quiet (Qt.move rfl) rfl rfl ?_
    refine WL.loud (.take 4 rfl (.nil)) (Ld.update Tryz.underlying136 Tryz.underlying9 rfl rfl rfl) trivial rfl ?_
    rintro _ _ rfl
    rw [mset_new hnew]
    refine WL.nil ?_
    refine WX.next ?_
    refine WC.region ?_
    refine WL.quiet (Qt.move rfl) rfl rfl ?_
    refine WL.quiet (Qt.move rfl) rfl rfl ?_
    refine WL.loud (.nil) (Ld.buildSlice (zs := [.string (⟨#[]⟩ : ByteArray)]) Tryz.underlying105 ti9 rfl rfl (by kernel_rfl) rfl rfl) trivial rfl ?_
    rintro _ _ ⟨b_6, rfl, rfl⟩
    refine WL.loud (.take 6 rfl (.take 0 rfl (.nil))) (Ld.append1 (e := kStr) (xs := l2) ([cs[k].frm, cs[k].to][q]) Tryz.underlying105 ti9 rfl (by decide) (by decide) rfl rfl (by first | omega | (simp; omega)) (fun S w h => rfl)) trivial rfl ?_
    rintro _ _ ⟨A_1, c_1, rfl, rfl⟩
    refine WL.quiet (Qt.assign rfl) rfl rfl ?_
    refine WL.nil ?_
    refine WX.block_end ?_
    refine WX.next ?_
    refine WC.region ?_
    refine WL.quiet (Qt.add rfl rfl (by omega)) rfl rfl ?_
    refine WL.quiet (Qt.move rfl) rfl rfl ?_
    refine WL.nil ?_
    exact WX.back (q + 1, A_1, c_1, l2 ++ [[cs[k].frm, cs[k].to][q]]) ⟨by omega, addN_step hl2 hab (by first | exact .inl ⟨hnew, rfl⟩ | exact .inr ⟨hold, rfl⟩)⟩ (by first | omega | (dsimp only; omega) | (simp; omega)) ⟨rfl, rfl, rfl, rfl, rfl, rfl, rfl, rfl, rfl, rfl, rfl, rfl, rfl, rfl, rfl, rfl, rfl, trivial⟩ (.u 3 rfl (.take 4 rfl (.u 4 rfl (.take 1 rfl (.take 0 rfl (.take 3 rfl (.u 3 rfl (.nil))))))))
   ·
    have hold := look_yes (k := [cs[k].frm, cs[k].to][q]) (ks := l2) (by simpa using hc_3)
    refine WC.skip ?_
    refine WX.block_end ?_
    refine WX.next ?_
    refine WC.region ?_
    refine WL.quiet (Qt.add rfl rfl (by omega)) rfl rfl ?_
    refine WL.quiet (Qt.move rfl) rfl rfl ?_
    refine WL.nil ?_
    exact WX.back (q + 1, A2, c2, l2) ⟨by omega, addN_step hl2 hab (by first | exact .inl ⟨hnew, rfl⟩ | exact .inr ⟨hold, rfl⟩)⟩ (by first | omega | (dsimp only; omega) | (simp; omega)) ⟨rfl, rfl, rfl, rfl, rfl, rfl, rfl, rfl, rfl, rfl, rfl, rfl, rfl, rfl, rfl, rfl, rfl, trivial⟩ (.u 1 rfl (.take 2 rfl (.u 2 rfl (.take 3 rfl (.take 3 rfl (.take 3 rfl (.u 3 rfl (.nil))))))))
  ·
   refine WC.exit ?_
   refine WX.pass_exit ?_
   refine WX.pass_exit ?_
   refine WX.block_exit ?_
   refine WX.block_end ?_
   refine WX.next ?_
   refine WC.region ?_
   refine WL.quiet (Qt.add rfl rfl (by omega)) rfl rfl ?_
   refine WL.quiet (Qt.move rfl) rfl rfl ?_
   refine WL.nil ?_
   exact WX.back (k + 1, A2, c2, l2) ⟨by omega, by rw [nodesF_take _ _ (by omega), ← hl, hl2, List.take_of_length_le (by show 2 ≤ q; omega)]; rfl⟩ (by first | omega | (dsimp only; omega) | (simp; omega)) ⟨rfl, rfl, rfl, rfl, rfl, rfl, trivial⟩ (.take 3 rfl (.take 3 rfl (.take 3 rfl (.u 3 rfl (.nil)))))
 ·
  refine WC.exit ?_
  refine WX.pass_exit ?_
  refine WX.pass_exit ?_
  refine WX.block_exit ?_
  refine WX.next ?_
  refine WC.seq ?_
  refine WC.region ?_
  refine WL.quiet (Qt.move rfl) rfl rfl ?_
  refine WL.quiet (Qt.assign rfl) rfl rfl ?_
  refine WL.nil ?_
  refine WX.next ?_
  refine WC.ret ?_
  have hend : l = nodesF cs := by rw [hl, List.take_of_length_le (by omega)]
  subst hend
  refine WX.ret1 (.take 1 rfl (.nil)) rfl rfl ?_
  exact ⟨_, _, rfl, rfl⟩

end Go.Proofs.YtolggjmgfijjfaaGreatDoor.Sep

/- A walk, printed by gen.py out of hints. -/
namespace Go.Proofs.YtolggjmgfijjfaaGreatDoor.Sep
open Go
variable {μ : Prop}
theorem indexStrW (xs : List ByteArray) (A : Option Addr) (c fid : Nat) (us : List Value) (F E : Fact) (p : ByteArray → Bool) (hcall : Callable Tryz.prog fid) (hE : ∀ k, ¬ E.own k) (hf : ∀ (k : Nat) (hk : k < xs.length) , Spec μ Tryz.prog fid ([Value.string xs[k]] ++ us).toArray [F, E] fun v Δ => v = .bool (p xs[k]) ∧ Δ = [F]) : Spec μ Tryz.prog 68 #[.slice A xs.length c, .func (.func fid) #[] us.toArray] [rd kStr A c xs, F, E] fun v Δ => v = .int .i64 (idxF p xs) ∧ Δ = [F] := by
 refine Spec.of_body (n := 19) Tryz.func68 rfl rfl rfl fun w0 S0 O0 => ?_
 show WC _ _ _ _ _ _ [(0, .slice A xs.length c), (1, .func (.func fid) #[] us.toArray)] [rd kStr A c xs, F, E]
 refine WC.learn (Z := Unit) (Δ := fun _ => []) (φ := fun _ => xs.length ≤ c ∧ c ≤ 9223372036854775807) 0 rfl (fun S w h => ⟨(), rd_bounds h, nofacts⟩) ?_
 rintro _ ⟨hb_1, hb_2⟩
 refine WC.seq ?_
 refine WC.region ?_
 refine WL.quiet (Qt.assign rfl) rfl rfl ?_
 refine WL.nil ?_
 refine WX.next ?_
 refine WC.seq ?_
 refine WC.seq ?_
 refine WC.region ?_
 refine WL.quiet (Qt.move rfl) rfl rfl ?_
 refine WL.quiet (Qt.lenS Tryz.underlying105 rfl) rfl rfl ?_
 refine WL.quiet (Qt.move rfl) rfl rfl ?_
 refine WL.nil ?_
 refine WX.next ?_
 refine WC.block ?_
 refine WC.loop (fun w0 : Nat => [(0, .slice A xs.length c), (1, .func (.func fid) #[] us.toArray), (4, .int .i64 0), (7, .int .i64 ((xs.length : Nat) : Int)), (8, .int .i64 ((w0 : Nat) : Int))]) (fun w0 => [rd kStr A c xs, F, E]) (fun w0 => w0 ≤ xs.length ∧ ∀ (j : Nat) (hj : j < xs.length), j < w0 → p xs[j] = false) (fun w0 => xs.length - w0) 0 ⟨Nat.zero_le _, fun j _ h => absurd h (Nat.not_lt_zero _)⟩ ⟨rfl, rfl, rfl, rfl, rfl, trivial⟩ (.u 0 rfl (.take 1 rfl (.use 1 rfl hE (.nil)))) ?_
 rintro k ⟨hk, hb⟩
 try dsimp only at hk hb
 show WC _ _ _ _ _ _ [(0, .slice A xs.length c), (1, .func (.func fid) #[] us.toArray), (4, .int .i64 0), (7, .int .i64 ((xs.length : Nat) : Int)), (8, .int .i64 ((k : Nat) : Int))] [rd kStr A c xs, F, E]
 refine WC.seq ?_
 refine WC.region ?_
 refine WL.quiet (Qt.lss rfl rfl) rfl rfl ?_
 refine WL.nil ?_
 refine WX.next ?_
 refine WC.seq ?_
 refine WC.condD rfl (fun hc_1 => ?_) (fun hc_1 => ?_)
 ·
  refine WC.skip ?_
  refine WX.next ?_
  refine WC.seq ?_
  refine WC.block ?_
  refine WC.seq ?_
  refine WC.region ?_
  refine WL.quiet (Qt.move rfl) rfl rfl ?_
  refine WL.quiet (Qt.assign rfl) rfl rfl ?_
  refine WL.nil ?_
  refine WX.next ?_
  refine WC.seq ?_
  refine WC.region ?_
  refine WL.quiet (Qt.move rfl) rfl rfl ?_
  refine WL.quiet (Qt.move rfl) rfl rfl ?_
  refine WL.quiet (Qt.move rfl) rfl rfl ?_
  have hj_1 : k < xs.length := by omega
  refine WL.learn 0 rfl (rd_at k hj_1 (vStr _)) ?_
  rintro ⟨p_1, ⟨⟩⟩ hA_1
  refine WL.quiet (Qt.indexAddrE k hA_1 Tryz.underlying105 ti9 rfl rfl (by first | assumption | omega)) rfl rfl ?_
  refine WL.quiet (Qt.loadC (p := p_1.add (k * 1)) (o := 0) 0 rfl ta9 rfl rfl) rfl rfl ?_
  refine WL.call (.take 2 rfl (.use 2 rfl hE (.nil))) (Cl.val hcall rfl rfl) (hf k _ ) trivial rfl ?_
  rintro _ _ ⟨rfl, rfl⟩
  refine WL.nil ?_
  refine WX.next ?_
  refine WC.cond rfl (fun hc_2 => ?_) (fun hc_2 => ?_)
  ·
   refine WC.seq ?_
   refine WC.region ?_
   refine WL.quiet (Qt.move rfl) rfl rfl ?_
   refine WL.quiet (Qt.assign rfl) rfl rfl ?_
   refine WL.nil ?_
   refine WX.next ?_
   refine WC.ret ?_
   refine WX.block_ret ?_
   refine WX.pass_ret ?_
   refine WX.pass_ret ?_
   refine WX.block_ret ?_
   refine WX.pass_ret ?_
   refine WX.ret1 (.take 0 rfl (.nil)) rfl rfl ?_
   exact ⟨by rw [idxF_at (by omega) hc_2 hb], rfl⟩
  ·
   refine WC.skip ?_
   refine WX.block_end ?_
   refine WX.next ?_
   refine WC.region ?_
   refine WL.quiet (Qt.add rfl rfl (by omega)) rfl rfl ?_
   refine WL.quiet (Qt.move rfl) rfl rfl ?_
   refine WL.nil ?_
   exact WX.back (k + 1) ⟨by omega, notyet hb (by omega) hc_2⟩ (by first | omega | (dsimp only; omega) | (simp; omega)) ⟨rfl, rfl, rfl, rfl, rfl, trivial⟩ (.u 2 rfl (.take 0 rfl (.use 2 rfl hE (.nil))))
 ·
  refine WC.exit ?_
  refine WX.pass_exit ?_
  refine WX.pass_exit ?_
  refine WX.block_exit ?_
  refine WX.next ?_
  refine WC.seq ?_
  refine WC.region ?_
  refine WL.quiet (Qt.assign rfl) rfl rfl ?_
  refine WL.nil ?_
  refine WX.next ?_
  refine WC.ret ?_
  refine WX.ret1 (.take 1 rfl (.nil)) rfl rfl ?_
  exact ⟨by rw [idxF_none (fun j hj => hb j hj (by omega))], rfl⟩

end Go.Proofs.YtolggjmgfijjfaaGreatDoor.Sep

/- A walk, printed by gen.py out of hints. -/
namespace Go.Proofs.YtolggjmgfijjfaaGreatDoor.Sep
open Go
variable {μ : Prop}
theorem numbersW (cs : List Contact) (lb jp : ByteArray) (A B : Option Addr) (c nB d fid : Nat) (us : List Value) (F : Fact) (p : Contact → Bool) (hlen : cs.length ≤ 100000) (hcall : Callable Tryz.prog fid) (hf : ∀ (k : Nat) (hk : k < cs.length), Spec μ Tryz.prog fid ([Value.agg [.int .i64 cs[k].kind, .int .i64 cs[k].sp, .int .i64 cs[k].n, .string cs[k].frm, .string cs[k].to].toArray] ++ us).toArray [F] fun v Δ => v = .bool (p cs[k]) ∧ Δ = [F]) : Spec μ Tryz.prog 97 #[.agg [.string lb, .slice A cs.length c, .slice B nB d, .string jp].toArray, .func (.func fid) #[] us.toArray] [rd kContact A c cs, F] fun v Δ => ∃ A1 c1, v = .slice A1 (numI p cs cs.length).length c1 ∧ Δ = [row kInt 3 A1 c1 (numI p cs cs.length), F] := by
 refine Spec.of_body (n := 25) Tryz.func97 rfl rfl rfl fun w0 S0 O0 => ?_
 show WC _ _ _ _ _ _ [(0, .agg [.string lb, .slice A cs.length c, .slice B nB d, .string jp].toArray), (1, .func (.func fid) #[] us.toArray)] [rd kContact A c cs, F]
 refine WC.learn (Z := Unit) (Δ := fun _ => []) (φ := fun _ => cs.length ≤ c ∧ c ≤ 9223372036854775807) 0 rfl (fun S w h => ⟨(), rd_bounds h, nofacts⟩) ?_
 rintro _ ⟨hb_1, hb_2⟩
 refine WC.seq ?_
 refine WC.region ?_
 refine WL.loud (.nil) (Ld.box rfl rfl) trivial rfl ?_
 rintro _ _ ⟨b_1, rfl, rfl⟩
 refine WL.quiet (Qt.assign rfl) rfl rfl ?_
 refine WL.nil ?_
 refine WX.next ?_
 refine WC.seq ?_
 refine WC.region ?_
 refine WL.quiet (Qt.assign rfl) rfl rfl ?_
 refine WL.nil ?_
 refine WX.next ?_
 refine WC.seq ?_
 refine WC.seq ?_
 refine WC.region ?_
 refine WL.quiet (Qt.fieldAddrB tf25_1 rfl) rfl rfl ?_
 refine WL.quiet (Qt.loadB 0 rfl ta22 rfl rfl) rfl rfl ?_
 refine WL.quiet (Qt.lenS Tryz.underlying22 rfl) rfl rfl ?_
 refine WL.quiet (Qt.move rfl) rfl rfl ?_
 refine WL.nil ?_
 refine WX.next ?_
 refine WC.block ?_
 refine WC.turn (.nil) (nil_row (e := kInt) (t := 3)) ?_
 rintro _ rfl
 refine WC.loop (fun w0 : Nat × (Option Addr) × Nat × (List Int) => [(1, .func (.func fid) #[] us.toArray), (4, .slice none 0 0), (5, .slice w0.2.1 w0.2.2.2.length w0.2.2.1), (9, .slice A cs.length c), (10, .int .i64 ((cs.length : Nat) : Int)), (11, .int .i64 ((w0.1 : Nat) : Int))]) (fun w0 => [row kInt 3 w0.2.1 w0.2.2.1 w0.2.2.2, blk b_1 25 [.string lb, .slice A cs.length c, .slice B nB d, .string jp], rd kContact A c cs, F]) (fun w0 => w0.1 ≤ cs.length ∧ w0.2.2.2 = numI p cs w0.1) (fun w0 => cs.length - w0.1) (0, none, 0, []) ⟨Nat.zero_le _, rfl⟩ ⟨rfl, rfl, rfl, rfl, rfl, rfl, trivial⟩ (.take 0 rfl (.take 0 rfl (.u 0 rfl (.take 1 rfl (.nil))))) ?_
 rintro ⟨k, A1, c1, l⟩ ⟨hk, hl⟩
 try dsimp only at hk hl
 have hll := numI_len p cs k
 rw [← hl] at hll
 show WC _ _ _ _ _ _ [(1, .func (.func fid) #[] us.toArray), (4, .slice none 0 0), (5, .slice A1 l.length c1), (9, .slice A cs.length c), (10, .int .i64 ((cs.length : Nat) : Int)), (11, .int .i64 ((k : Nat) : Int))] [row kInt 3 A1 c1 l, blk b_1 25 [.string lb, .slice A cs.length c, .slice B nB d, .string jp], rd kContact A c cs, F]
 refine WC.seq ?_
 refine WC.region ?_
 refine WL.quiet (Qt.lss rfl rfl) rfl rfl ?_
 refine WL.nil ?_
 refine WX.next ?_
 refine WC.seq ?_
 refine WC.condD rfl (fun hc_1 => ?_) (fun hc_1 => ?_)
 ·
  refine WC.skip ?_
  refine WX.next ?_
  refine WC.seq ?_
  refine WC.block ?_
  refine WC.seq ?_
  refine WC.region ?_
  refine WL.quiet (Qt.move rfl) rfl rfl ?_
  have hj_1 : k < cs.length := by omega
  refine WL.learn 2 rfl (rd_at k hj_1 (vContact _)) ?_
  rintro ⟨p_1, ⟨⟩⟩ hA_1
  refine WL.quiet (Qt.indexAddrE k hA_1 Tryz.underlying22 ti56 rfl rfl (by first | assumption | omega)) rfl rfl ?_
  refine WL.quiet (Qt.loadCA (p := p_1.add (k * 5)) (o := 0) 0 rfl ta56 ti56 rfl rfl) rfl rfl ?_
  refine WL.loud (.nil) (Ld.alloc ti56 rfl) trivial rfl ?_
  rintro _ _ ⟨b_2, rfl, rfl⟩
  refine WL.quiet (Qt.assign rfl) rfl rfl ?_
  refine WL.loud (.take 0 rfl (.nil)) (Ld.store ti56 rfl rfl rfl rfl rfl rfl) trivial rfl ?_
  rintro _ _ rfl
  refine WL.nil ?_
  refine WX.next ?_
  refine WC.seq ?_
  refine WC.region ?_
  refine WL.quiet (Qt.move rfl) rfl rfl ?_
  refine WL.quiet (Qt.loadBA 0 rfl ta56 ti56 rfl rfl) rfl rfl ?_
  refine WL.call (.take 5 rfl (.nil)) (Cl.val hcall rfl rfl) (hf k _) trivial rfl ?_
  rintro _ _ ⟨rfl, rfl⟩
  refine WL.nil ?_
  refine WX.next ?_
  refine WC.cond rfl (fun hc_2 => ?_) (fun hc_2 => ?_)
  ·
   refine WC.region ?_
   refine WL.quiet (Qt.move rfl) rfl rfl ?_
   refine WL.quiet (Qt.move rfl) rfl rfl ?_
   refine WL.loud (.nil) (Ld.buildSlice (zs := [.int .i64 0]) Tryz.underlying85 ti3 rfl rfl (by kernel_rfl) rfl rfl) trivial rfl ?_
   rintro _ _ ⟨b_3, rfl, rfl⟩
   refine WL.loud (.take 4 rfl (.take 0 rfl (.nil))) (Ld.append1 (e := kInt) (xs := l) ((k : Nat) : Int) Tryz.underlying85 ti3 rfl (by decide) (by decide) rfl rfl (by first | omega | (simp; omega)) (fun S w h => rfl)) trivial rfl ?_
   rintro _ _ ⟨A_1, c_1, rfl, rfl⟩
   refine WL.quiet (Qt.assign rfl) rfl rfl ?_
   refine WL.nil ?_
   refine WX.block_end ?_
   refine WX.next ?_
   refine WC.region ?_
   refine WL.quiet (Qt.add rfl rfl (by omega)) rfl rfl ?_
   refine WL.quiet (Qt.move rfl) rfl rfl ?_
   refine WL.nil ?_
   exact WX.back (k + 1, A_1, c_1, l ++ [((k : Nat) : Int)]) ⟨by omega, by rw [numI_step p cs k (by omega), ← hl]; simp [hc_2]⟩ (by first | omega | (dsimp only; omega) | (simp; omega)) ⟨rfl, rfl, rfl, rfl, rfl, rfl, trivial⟩ (.take 0 rfl (.take 3 rfl (.u 3 rfl (.take 0 rfl (.nil)))))
  ·
   refine WC.skip ?_
   refine WX.block_end ?_
   refine WX.next ?_
   refine WC.region ?_
   refine WL.quiet (Qt.add rfl rfl (by omega)) rfl rfl ?_
   refine WL.quiet (Qt.move rfl) rfl rfl ?_
   refine WL.nil ?_
   exact WX.back (k + 1, A1, c1, l) ⟨by omega, by rw [numI_step p cs k (by omega), ← hl]; simp [hc_2]⟩ (by first | omega | (dsimp only; omega) | (simp; omega)) ⟨rfl, rfl, rfl, rfl, rfl, rfl, trivial⟩ (.take 3 rfl (.take 3 rfl (.u 3 rfl (.take 0 rfl (.nil)))))
 ·
  refine WC.exit ?_
  refine WX.pass_exit ?_
  refine WX.pass_exit ?_
  refine WX.block_exit ?_
  refine WX.next ?_
  refine WC.seq ?_
  refine WC.region ?_
  refine WL.quiet (Qt.move rfl) rfl rfl ?_
  refine WL.quiet (Qt.assign rfl) rfl rfl ?_
  refine WL.nil ?_
  refine WX.next ?_
  refine WC.ret ?_
  have hend : l = numI p cs cs.length := by rw [hl, show k = cs.length from by omega]
  subst hend
  refine WX.ret1 (.take 0 rfl (.take 2 rfl (.nil))) rfl rfl ?_
  exact ⟨_, _, rfl, rfl⟩

end Go.Proofs.YtolggjmgfijjfaaGreatDoor.Sep

/- A walk, printed by gen.py out of hints. -/
namespace Go.Proofs.YtolggjmgfijjfaaGreatDoor.Sep
open Go
variable {μ : Prop}
theorem isToW (x : Contact) (node : ByteArray) (b : Nat)  : Spec μ Tryz.prog 98 #[.agg [.int .i64 x.kind, .int .i64 x.sp, .int .i64 x.n, .string x.frm, .string x.to].toArray, .pointer (some ⟨b, 0, none⟩)] [blk b 9 [.string node]] fun v Δ => v = .bool (decide (x.to = node)) ∧ Δ = [blk b 9 [.string node]] := by
 refine Spec.of_body (n := 8) Tryz.func98 rfl rfl rfl fun w0 S0 O0 => ?_
 show WC _ _ _ _ _ _ [(0, .agg [.int .i64 x.kind, .int .i64 x.sp, .int .i64 x.n, .string x.frm, .string x.to].toArray), (1, .pointer (some ⟨b, 0, none⟩))] [blk b 9 [.string node]]
 refine WC.seq ?_
 refine WC.region ?_
 refine WL.loud (.nil) (Ld.box rfl rfl) trivial rfl ?_
 rintro _ _ ⟨b_1, rfl, rfl⟩
 refine WL.quiet (Qt.assign rfl) rfl rfl ?_
 refine WL.nil ?_
 refine WX.next ?_
 refine WC.seq ?_
 refine WC.region ?_
 refine WL.quiet (Qt.fieldAddrB tf56_3 rfl) rfl rfl ?_
 refine WL.quiet (Qt.loadB 0 rfl ta9 rfl rfl) rfl rfl ?_
 refine WL.quiet (Qt.loadB 1 rfl ta9 rfl rfl) rfl rfl ?_
 refine WL.quiet (Qt.seql rfl rfl) rfl rfl ?_
 refine WL.quiet (Qt.assign rfl) rfl rfl ?_
 refine WL.nil ?_
 refine WX.next ?_
 refine WC.ret ?_
 refine WX.ret1 (.take 1 rfl (.nil)) rfl rfl ?_
 exact ⟨rfl, rfl⟩

end Go.Proofs.YtolggjmgfijjfaaGreatDoor.Sep

/- A walk, printed by gen.py out of hints. -/
namespace Go.Proofs.YtolggjmgfijjfaaGreatDoor.Sep
open Go
variable {μ : Prop}
theorem incomingW (cs : List Contact) (lb jp : ByteArray) (A B : Option Addr) (c nB d : Nat) (node : ByteArray) (hlen : cs.length ≤ 100000) : Spec μ Tryz.prog 71 #[.agg [.string lb, .slice A cs.length c, .slice B nB d, .string jp].toArray, .string node] [rd kContact A c cs] fun v Δ => ∃ A1 c1, v = .slice A1 (numI (fun c => decide (c.to = node)) cs cs.length).length c1 ∧ Δ = [row kInt 3 A1 c1 (numI (fun c => decide (c.to = node)) cs cs.length)] := by
 refine Spec.of_body (n := 8) Tryz.func71 rfl rfl rfl fun w0 S0 O0 => ?_
 show WC _ _ _ _ _ _ [(0, .agg [.string lb, .slice A cs.length c, .slice B nB d, .string jp].toArray), (1, .string node)] [rd kContact A c cs]
 refine WC.seq ?_
 refine WC.region ?_
 refine WL.loud (.nil) (Ld.box rfl rfl) trivial rfl ?_
 rintro _ _ ⟨b_1, rfl, rfl⟩
 refine WL.loud (.nil) (Ld.box rfl rfl) trivial rfl ?_
 rintro _ _ ⟨b_2, rfl, rfl⟩
 refine WL.quiet (Qt.assign rfl) rfl rfl ?_
 refine WL.nil ?_
 refine WX.next ?_
 refine WC.seq ?_
 refine WC.region ?_
 refine WL.quiet (Qt.loadBA 1 rfl ta25 ti25 rfl rfl) rfl rfl ?_
 refine WL.quiet (Qt.makeFunc (vs := []) rfl rfl) rfl rfl ?_
 refine WL.call (.u 2 rfl (.take 0 rfl (.nil))) (Cl.func cb97 rfl) (numbersW cs _ _ _ _ _ _ _ 98 [.pointer (some ⟨b_2, 0, none⟩)] (blk b_2 9 [.string node]) (fun c => decide (c.to = node)) hlen cb98 (fun k hk => isToW cs[k] node b_2)) trivial rfl ?_
 rintro _ _ ⟨A_1, c_1, rfl, rfl⟩
 refine WL.quiet (Qt.assign rfl) rfl rfl ?_
 refine WL.nil ?_
 refine WX.next ?_
 refine WC.ret ?_
 refine WX.ret1 (.take 0 rfl (.nil)) rfl rfl ?_
 exact ⟨_, _, rfl, rfl⟩

end Go.Proofs.YtolggjmgfijjfaaGreatDoor.Sep

/- A walk, printed by gen.py out of hints. -/
namespace Go.Proofs.YtolggjmgfijjfaaGreatDoor.Sep
open Go
variable {μ : Prop}
theorem indexIntW (xs : List Int) (A : Option Addr) (c fid : Nat) (us : List Value) (F E : Fact) (p : Int → Bool) (hcall : Callable Tryz.prog fid) (hE : ∀ k, ¬ E.own k) (hf : ∀ (k : Nat) (hk : k < xs.length) , Spec μ Tryz.prog fid ([Value.int .i64 xs[k]] ++ us).toArray [F, E] fun v Δ => v = .bool (p xs[k]) ∧ Δ = [F]) : Spec μ Tryz.prog 96 #[.slice A xs.length c, .func (.func fid) #[] us.toArray] [rd kInt A c xs, F, E] fun v Δ => v = .int .i64 (idxF p xs) ∧ Δ = [F] := by
 refine Spec.of_body (n := 19) Tryz.func96 rfl rfl rfl fun w0 S0 O0 => ?_
 show WC _ _ _ _ _ _ [(0, .slice A xs.length c), (1, .func (.func fid) #[] us.toArray)] [rd kInt A c xs, F, E]
 refine WC.learn (Z := Unit) (Δ := fun _ => []) (φ := fun _ => xs.length ≤ c ∧ c ≤ 9223372036854775807) 0 rfl (fun S w h => ⟨(), rd_bounds h, nofacts⟩) ?_
 rintro _ ⟨hb_1, hb_2⟩
 refine WC.seq ?_
 refine WC.region ?_
 refine WL.quiet (Qt.assign rfl) rfl rfl ?_
 refine WL.nil ?_
 refine WX.next ?_
 refine WC.seq ?_
 refine WC.seq ?_
 refine WC.region ?_
 refine WL.quiet (Qt.move rfl) rfl rfl ?_
 refine WL.quiet (Qt.lenS Tryz.underlying85 rfl) rfl rfl ?_
 refine WL.quiet (Qt.move rfl) rfl rfl ?_
 refine WL.nil ?_
 refine WX.next ?_
 refine WC.block ?_
 refine WC.loop (fun w0 : Nat => [(0, .slice A xs.length c), (1, .func (.func fid) #[] us.toArray), (4, .int .i64 0), (7, .int .i64 ((xs.length : Nat) : Int)), (8, .int .i64 ((w0 : Nat) : Int))]) (fun w0 => [rd kInt A c xs, F, E]) (fun w0 => w0 ≤ xs.length ∧ ∀ (j : Nat) (hj : j < xs.length), j < w0 → p xs[j] = false) (fun w0 => xs.length - w0) 0 ⟨Nat.zero_le _, fun j _ h => absurd h (Nat.not_lt_zero _)⟩ ⟨rfl, rfl, rfl, rfl, rfl, trivial⟩ (.u 0 rfl (.take 1 rfl (.use 1 rfl hE (.nil)))) ?_
 rintro k ⟨hk, hb⟩
 try dsimp only at hk hb
 show WC _ _ _ _ _ _ [(0, .slice A xs.length c), (1, .func (.func fid) #[] us.toArray), (4, .int .i64 0), (7, .int .i64 ((xs.length : Nat) : Int)), (8, .int .i64 ((k : Nat) : Int))] [rd kInt A c xs, F, E]
 refine WC.seq ?_
 refine WC.region ?_
 refine WL.quiet (Qt.lss rfl rfl) rfl rfl ?_
 refine WL.nil ?_
 refine WX.next ?_
 refine WC.seq ?_
 refine WC.condD rfl (fun hc_1 => ?_) (fun hc_1 => ?_)
 ·
  refine WC.skip ?_
  refine WX.next ?_
  refine WC.seq ?_
  refine WC.block ?_
  refine WC.seq ?_
  refine WC.region ?_
  refine WL.quiet (Qt.move rfl) rfl rfl ?_
  refine WL.quiet (Qt.assign rfl) rfl rfl ?_
  refine WL.nil ?_
  refine WX.next ?_
  refine WC.seq ?_
  refine WC.region ?_
  refine WL.quiet (Qt.move rfl) rfl rfl ?_
  refine WL.quiet (Qt.move rfl) rfl rfl ?_
  refine WL.quiet (Qt.move rfl) rfl rfl ?_
  have hj_1 : k < xs.length := by omega
  refine WL.learn 0 rfl (rd_at k hj_1 (vInt _)) ?_
  rintro ⟨p_1, ⟨⟩⟩ hA_1
  refine WL.quiet (Qt.indexAddrE k hA_1 Tryz.underlying85 ti3 rfl rfl (by first | assumption | omega)) rfl rfl ?_
  refine WL.quiet (Qt.loadC (p := p_1.add (k * 1)) (o := 0) 0 rfl ta3 rfl rfl) rfl rfl ?_
  refine WL.call (.take 2 rfl (.use 2 rfl hE (.nil))) (Cl.val hcall rfl rfl) (hf k _ ) trivial rfl ?_
  rintro _ _ ⟨rfl, rfl⟩
  refine WL.nil ?_
  refine WX.next ?_
  refine WC.cond rfl (fun hc_2 => ?_) (fun hc_2 => ?_)
  ·
   refine WC.seq ?_
   refine WC.region ?_
   refine WL.quiet (Qt.move rfl) rfl rfl ?_
   refine WL.quiet (Qt.assign rfl) rfl rfl ?_
   refine WL.nil ?_
   refine WX.next ?_
   refine WC.ret ?_
   refine WX.block_ret ?_
   refine WX.pass_ret ?_
   refine WX.pass_ret ?_
   refine WX.block_ret ?_
   refine WX.pass_ret ?_
   refine WX.ret1 (.take 0 rfl (.nil)) rfl rfl ?_
   exact ⟨by rw [idxF_at (by omega) hc_2 hb], rfl⟩
  ·
   refine WC.skip ?_
   refine WX.block_end ?_
   refine WX.next ?_
   refine WC.region ?_
   refine WL.quiet (Qt.add rfl rfl (by omega)) rfl rfl ?_
   refine WL.quiet (Qt.move rfl) rfl rfl ?_
   refine WL.nil ?_
   exact WX.back (k + 1) ⟨by omega, notyet hb (by omega) hc_2⟩ (by first | omega | (dsimp only; omega) | (simp; omega)) ⟨rfl, rfl, rfl, rfl, rfl, trivial⟩ (.u 2 rfl (.take 0 rfl (.use 2 rfl hE (.nil))))
 ·
  refine WC.exit ?_
  refine WX.pass_exit ?_
  refine WX.pass_exit ?_
  refine WX.block_exit ?_
  refine WX.next ?_
  refine WC.seq ?_
  refine WC.region ?_
  refine WL.quiet (Qt.assign rfl) rfl rfl ?_
  refine WL.nil ?_
  refine WX.next ?_
  refine WC.ret ?_
  refine WX.ret1 (.take 1 rfl (.nil)) rfl rfl ?_
  exact ⟨by rw [idxF_none (fun j hj => hb j hj (by omega))], rfl⟩

end Go.Proofs.YtolggjmgfijjfaaGreatDoor.Sep

/- A walk, printed by gen.py out of hints. -/
namespace Go.Proofs.YtolggjmgfijjfaaGreatDoor.Sep
open Go
variable {μ : Prop}
theorem containsIntW (xs : List Int) (A : Option Addr) (c fid : Nat) (us : List Value) (F E : Fact) (p : Int → Bool) (hcall : Callable Tryz.prog fid) (hE : ∀ k, ¬ E.own k) (hf : ∀ (k : Nat) (hk : k < xs.length) , Spec μ Tryz.prog fid ([Value.int .i64 xs[k]] ++ us).toArray [F, E] fun v Δ => v = .bool (p xs[k]) ∧ Δ = [F]) : Spec μ Tryz.prog 70 #[.slice A xs.length c, .func (.func fid) #[] us.toArray] [rd kInt A c xs, F, E] fun v Δ => v = .bool (xs.any p) ∧ Δ = [F] := by
 refine Spec.of_body (n := 9) Tryz.func70 rfl rfl rfl fun w0 S0 O0 => ?_
 show WC _ _ _ _ _ _ [(0, .slice A xs.length c), (1, .func (.func fid) #[] us.toArray)] [rd kInt A c xs, F, E]
 refine WC.seq ?_
 refine WC.region ?_
 refine WL.quiet (Qt.assign rfl) rfl rfl ?_
 refine WL.nil ?_
 refine WX.next ?_
 refine WC.seq ?_
 refine WC.region ?_
 refine WL.quiet (Qt.move rfl) rfl rfl ?_
 refine WL.quiet (Qt.move rfl) rfl rfl ?_
 refine WL.call (.u 0 rfl (.take 1 rfl (.use 1 rfl hE (.nil)))) (Cl.func cb96 rfl) (indexIntW xs _ _ fid us F E p hcall hE hf) trivial rfl ?_
 rintro _ _ ⟨rfl, rfl⟩
 refine WL.quiet (Qt.geq rfl rfl) rfl rfl ?_
 refine WL.quiet (Qt.assign rfl) rfl rfl ?_
 refine WL.nil ?_
 refine WX.next ?_
 refine WC.ret ?_
 refine WX.ret1 (.take 0 rfl (.nil)) rfl rfl ?_
 exact ⟨by rw [← idxF_any], rfl⟩

end Go.Proofs.YtolggjmgfijjfaaGreatDoor.Sep

/- A walk, printed by gen.py out of hints. -/
namespace Go.Proofs.YtolggjmgfijjfaaGreatDoor.Sep
open Go
variable {μ : Prop}
theorem notToldW (j : Nat) (cs : List Contact) (told : List ByteArray) (lb jp : ByteArray) (A B : Option Addr) (c nB d b1 b2 bm : Nat) (hj : j < cs.length) : Spec μ Tryz.prog 72 #[.int .i64 ((j : Nat) : Int), .pointer (some ⟨b2, 0, none⟩), .pointer (some ⟨b1, 0, none⟩)] [blk b1 25 [.string lb, .slice A cs.length c, .slice B nB d, .string jp], blk b2 136 [.map (some bm)], mp strKey Value.bool bm (trues told), rd kContact A c cs] fun v Δ => v = .bool (notTold cs told ((j : Nat) : Int)) ∧ Δ = [blk b1 25 [.string lb, .slice A cs.length c, .slice B nB d, .string jp], blk b2 136 [.map (some bm)], mp strKey Value.bool bm (trues told)] := by
 refine Spec.of_body (n := 14) Tryz.func72 rfl rfl rfl fun w0 S0 O0 => ?_
 show WC _ _ _ _ _ _ [(0, .int .i64 ((j : Nat) : Int)), (1, .pointer (some ⟨b2, 0, none⟩)), (2, .pointer (some ⟨b1, 0, none⟩))] [blk b1 25 [.string lb, .slice A cs.length c, .slice B nB d, .string jp], blk b2 136 [.map (some bm)], mp strKey Value.bool bm (trues told), rd kContact A c cs]
 refine WC.learn (Z := Unit) (Δ := fun _ => []) (φ := fun _ => cs.length ≤ c ∧ c ≤ 9223372036854775807) 3 rfl (fun S w h => ⟨(), rd_bounds h, nofacts⟩) ?_
 rintro _ ⟨hb_1, hb_2⟩
 refine WC.seq ?_
 refine WC.region ?_
 refine WL.quiet (Qt.assign rfl) rfl rfl ?_
 refine WL.nil ?_
 refine WX.next ?_
 refine WC.seq ?_
 have hj_1 : j < cs.length := by omega
 refine WC.learn 3 rfl (rd_at j hj_1 (vContact _)) ?_
 rintro ⟨p_1, ⟨⟩⟩ hA_1
 refine WC.calm (Calm.then (calm_FQ _ _)) fun hC => ?_
 refine WC.draw (Γq := [cellsAt (p_1.add (j * 5)) [.int .i64 (cs[j].kind), .int .i64 (cs[j].sp), .int .i64 (cs[j].n), .string (cs[j].frm), .string (cs[j].to)], blk b1 25 [.string lb, .slice A cs.length c, .slice B nB d, .string jp], blk b2 136 [.map (some bm)], mp strKey Value.bool bm (trues told), rd kContact A c cs]) [0, 1, 2, 3, 4, 5, 6, 7, 8] mixed ?_
 refine WA.named (.u 0 rfl (.take 1 rfl (.take 1 rfl (.take 1 rfl (.u 1 rfl (.nil)))))) fun sl_1 => ?_
 refine WA.tk 0 (by kernel_rfl) rfl hC (Qt.loadB 2 rfl ta136 rfl rfl) trivial rfl sl_1 ?_
 refine WA.tk 1 (by kernel_rfl) rfl hC (Qt.fieldAddrB tf25_1 rfl) trivial rfl sl_1 ?_
 refine WA.tk 2 (by kernel_rfl) rfl hC (Qt.loadB 1 rfl ta22 rfl rfl) trivial rfl sl_1 ?_
 refine WA.tk 3 (by kernel_rfl) rfl hC (Qt.move rfl) trivial rfl sl_1 ?_
 refine WA.tk 4 (by kernel_rfl) rfl hC (Qt.indexAddrE j hA_1 Tryz.underlying22 ti56 rfl rfl (by first | assumption | omega)) trivial rfl sl_1 ?_
 refine WA.tk 5 (by kernel_rfl) rfl hC (Qt.fieldAddr tf56_2 rfl) trivial rfl sl_1 ?_
 refine WA.tk 6 (by kernel_rfl) rfl hC (Qt.loadC (p := p_1.add (j * 5)) (o := 3) 0 rfl ta9 rfl rfl) trivial rfl sl_1 ?_
 refine WA.tk 7 (by kernel_rfl) rfl hC (Qt.lookup (z := false) 3 rfl Tryz.underlying136 Tryz.underlying9 ti4 rfl rfl) trivial rfl sl_1 ?_
 refine WA.tk 8 (by kernel_rfl) rfl hC (Qt.not rfl) trivial rfl sl_1 ?_
 refine WA.phase (K' := [0, 1, 2, 3, 4, 5, 6, 7, 8, 9]) (Γq' := [cellsAt (p_1.add (j * 5)) [.int .i64 (cs[j].kind), .int .i64 (cs[j].sp), .int .i64 (cs[j].n), .string (cs[j].frm), .string (cs[j].to)], blk b1 25 [.string lb, .slice A cs.length c, .slice B nB d, .string jp], blk b2 136 [.map (some bm)], mp strKey Value.bool bm (trues told), rd kContact A c cs]) (by kernel_rfl) ?_
 refine WA.tk 9 (by kernel_rfl) rfl hC (Qt.assign rfl) trivial rfl sl_1 ?_
 refine WA.done (by kernel_rfl) ?_
 refine WX.next ?_
 refine WC.ret ?_
 refine WX.ret1 (.take 1 rfl (.take 1 rfl (.take 1 rfl (.nil)))) rfl rfl ?_
 exact ⟨by rw [notTold_at hj, look_is_yes], rfl⟩

end Go.Proofs.YtolggjmgfijjfaaGreatDoor.Sep

/- A walk, printed by gen.py out of hints. -/
namespace Go.Proofs.YtolggjmgfijjfaaGreatDoor.Sep
open Go
variable {μ : Prop}
theorem allToldW (n : ByteArray) (cs : List Contact) (told : List ByteArray) (lb jp : ByteArray) (A B : Option Addr) (c nB d b1 b2 bm : Nat) (hlen : cs.length ≤ 100000) : Spec μ Tryz.prog 69 #[.string n, .pointer (some ⟨b1, 0, none⟩), .pointer (some ⟨b2, 0, none⟩)] [blk b1 25 [.string lb, .slice A cs.length c, .slice B nB d, .string jp], blk b2 136 [.map (some bm)], mp strKey Value.bool bm (trues told), rd kContact A c cs] fun v Δ => v = .bool (toldP cs told n) ∧ Δ = [blk b1 25 [.string lb, .slice A cs.length c, .slice B nB d, .string jp], blk b2 136 [.map (some bm)], mp strKey Value.bool bm (trues told)] := by
 refine Spec.of_body (n := 11) Tryz.func69 rfl rfl rfl fun w0 S0 O0 => ?_
 show WC _ _ _ _ _ _ [(0, .string n), (1, .pointer (some ⟨b1, 0, none⟩)), (2, .pointer (some ⟨b2, 0, none⟩))] [blk b1 25 [.string lb, .slice A cs.length c, .slice B nB d, .string jp], blk b2 136 [.map (some bm)], mp strKey Value.bool bm (trues told), rd kContact A c cs]
 refine WC.seq ?_
 refine WC.region ?_
 refine WL.quiet (Qt.assign rfl) rfl rfl ?_
 refine WL.nil ?_
 refine WX.next ?_
 refine WC.seq ?_
 refine WC.region ?_
 refine WL.quiet (Qt.loadBA 0 rfl ta25 ti25 rfl rfl) rfl rfl ?_
 refine WL.quiet (Qt.move rfl) rfl rfl ?_
 refine WL.call (.u 3 rfl (.nil)) (Cl.func cb71 rfl) (incomingW cs _ _ _ _ _ _ _ n hlen) trivial rfl ?_
 rintro _ _ ⟨A_1, c_1, rfl, rfl⟩
 refine WL.turn (.take 0 rfl (.nil)) (freeze_row) ?_
 rintro _ rfl
 refine WL.quiet (Qt.makeFunc (vs := []) rfl rfl) rfl rfl ?_
 refine WL.turn (.take 1 rfl (.take 1 rfl (.take 1 rfl (.nil)))) (conj_pack) ?_
 rintro _ rfl
 refine WL.call (.u 1 rfl (.take 0 rfl (.u 1 rfl (.nil)))) (Cl.func cb70 rfl) (containsIntW (numI (fun c => decide (c.to = n)) cs cs.length) _ _ 72 [.pointer (some ⟨b2, 0, none⟩), .pointer (some ⟨b1, 0, none⟩)] (conj [blk b1 25 [.string lb, .slice A cs.length c, .slice B nB d, .string jp], blk b2 136 [.map (some bm)], mp strKey Value.bool bm (trues told)]) (rd kContact A c cs) (notTold cs told) cb72 (fun _ h => h) (fun k hk => by obtain ⟨j, hj, hje, _⟩ := numI_get hk; rw [hje]; exact Spec.packed (U := [blk b1 25 [.string lb, .slice A cs.length c, .slice B nB d, .string jp], blk b2 136 [.map (some bm)], mp strKey Value.bool bm (trues told)]) (V := [rd kContact A c cs]) (notToldW j cs told _ _ _ _ _ _ _ b1 b2 bm hj))) trivial rfl ?_
 rintro _ _ ⟨rfl, rfl⟩
 refine WL.turn (.take 0 rfl (.nil)) (conj_unpack) ?_
 rintro _ rfl
 refine WL.quiet (Qt.not rfl) rfl rfl ?_
 refine WL.quiet (Qt.assign rfl) rfl rfl ?_
 refine WL.nil ?_
 refine WX.next ?_
 refine WC.ret ?_
 refine WX.ret1 (.take 0 rfl (.take 0 rfl (.take 0 rfl (.nil)))) rfl rfl ?_
 exact ⟨by rw [toldP_any], rfl⟩

end Go.Proofs.YtolggjmgfijjfaaGreatDoor.Sep

/- A walk, printed by gen.py out of hints. -/
namespace Go.Proofs.YtolggjmgfijjfaaGreatDoor.Sep
open Go
variable {μ : Prop}
theorem deleteStrW (xs : List ByteArray) (b c i j : Nat) (cur : List Value) (hij : i ≤ j) (hj : j ≤ xs.length) : Spec μ Tryz.prog 73 #[.slice (some ⟨b, 0, none⟩) xs.length c, .int .i64 ((i : Nat) : Int), .int .i64 ((j : Nat) : Int)] [rowL kStr 9 b c xs cur] fun v Δ => ∃ cur1, v = .slice (some ⟨b, 0, none⟩) (xs.take i ++ xs.drop j).length c ∧ Δ = [rowL kStr 9 b c (xs.take i ++ xs.drop j) cur1] := by
 refine Spec.of_body (n := 33) Tryz.func73 rfl rfl rfl fun w0 S0 O0 => ?_
 show WC _ _ _ _ _ _ [(0, .slice (some ⟨b, 0, none⟩) xs.length c), (1, .int .i64 ((i : Nat) : Int)), (2, .int .i64 ((j : Nat) : Int))] [rowL kStr 9 b c xs cur]
 refine WC.learn (Z := Unit) (Δ := fun _ => []) (φ := fun _ => xs.length ≤ c ∧ c ≤ 9223372036854775807) 0 rfl (fun S w h => ⟨(), rowL_bounds h, nofacts⟩) ?_
 rintro _ ⟨hb_1, hb_2⟩
 have hlen2 : (xs.take i ++ xs.drop j).length = i + (xs.length - j) := by rw [List.length_append, List.length_take, List.length_drop]; omega
 refine WC.seq ?_
 refine WC.region ?_
 refine WL.quiet (Qt.assign rfl) rfl rfl ?_
 refine WL.nil ?_
 refine WX.next ?_
 refine WC.seq ?_
 refine WC.region ?_
 refine WL.quiet (Qt.move rfl) rfl rfl ?_
 refine WL.quiet (Qt.move rfl) rfl rfl ?_
 refine WL.quiet (Qt.move rfl) rfl rfl ?_
 refine WL.quiet (Qt.move rfl) rfl rfl ?_
 refine WL.quiet (Qt.lenS Tryz.underlying105 rfl) rfl rfl ?_
 refine WL.quiet (Qt.cut3 Tryz.underlying105 ti9 rfl rfl rfl rfl hij hj (by omega)) rfl rfl ?_
 refine WL.nil ?_
 refine WX.next ?_
 refine WC.seq ?_
 refine WC.seq ?_
 refine WC.region ?_
 refine WL.quiet (Qt.move rfl) rfl rfl ?_
 refine WL.quiet (Qt.move rfl) rfl rfl ?_
 refine WL.quiet (Qt.eql rfl rfl) rfl rfl ?_
 refine WL.nil ?_
 refine WX.next ?_
 refine WC.condD rfl (fun hc_1 => ?_) (fun hc_1 => ?_)
 ·
  refine WC.seq ?_
  refine WC.region ?_
  refine WL.quiet (Qt.move rfl) rfl rfl ?_
  refine WL.quiet (Qt.assign rfl) rfl rfl ?_
  refine WL.nil ?_
  refine WX.next ?_
  refine WC.ret ?_
  refine WX.pass_ret ?_
  have hsame : (xs.take i ++ xs.drop j) = xs := take_drop_eq (by omega)
  rw [hsame]
  refine WX.ret1 (.take 0 rfl (.nil)) rfl rfl ?_
  exact ⟨_, rfl, rfl⟩
 ·
  refine WC.skip ?_
  refine WX.next ?_
  refine WC.seq ?_
  refine WC.region ?_
  refine WL.quiet (Qt.move rfl) rfl rfl ?_
  refine WL.quiet (Qt.lenS Tryz.underlying105 rfl) rfl rfl ?_
  refine WL.quiet (Qt.assign rfl) rfl rfl ?_
  refine WL.nil ?_
  refine WX.next ?_
  refine WC.seq ?_
  refine WC.calm (Calm.then (calm_FQ _ _)) fun hC => ?_
  refine WC.draw (Γq := []) [0, 1, 2, 3, 4, 5, 6] mixed ?_
  refine WA.named (.nil) fun sl_1 => ?_
  refine WA.tk 0 (by kernel_rfl) rfl hC (Qt.move rfl) trivial rfl sl_1 ?_
  refine WA.tk 1 (by kernel_rfl) rfl hC (Qt.move rfl) trivial rfl sl_1 ?_
  refine WA.tk 2 (by kernel_rfl) rfl hC (Qt.cutHigh Tryz.underlying105 ti9 rfl rfl (by omega)) trivial rfl sl_1 ?_
  refine WA.tk 3 (by kernel_rfl) rfl hC (Qt.move rfl) trivial rfl sl_1 ?_
  refine WA.tk 4 (by kernel_rfl) rfl hC (Qt.move rfl) trivial rfl sl_1 ?_
  refine WA.tk 5 (by kernel_rfl) rfl hC (Qt.cutLowB Tryz.underlying105 ti9 rfl rfl hj (by omega)) trivial rfl sl_1 ?_
  refine WA.one 6 (by kernel_rfl) ?_
  refine WO.loud rfl (.take 0 rfl (.nil)) (Ld.appendSelf Tryz.underlying105 ti9 rfl rfl hij hj) trivial rfl (by rintro _ _ ⟨rfl, rfl⟩; exact ⟨_, (.nil)⟩) ?_
  rintro _ _ ⟨rfl, rfl⟩
  refine WA.phase (K' := [0, 1, 2, 3, 4, 5, 6, 7]) (Γq' := [rowL kStr 9 b c (xs.take i ++ xs.drop j) (gone 1 cur i j xs.length)]) (by kernel_rfl) ?_
  refine WA.named (.take 0 rfl (.nil)) fun sl_2 => ?_
  refine WA.tk 7 (by kernel_rfl) rfl hC (Qt.assign rfl) trivial rfl sl_2 ?_
  refine WA.done (by kernel_rfl) ?_
  refine WX.next ?_
  refine WC.seq ?_
  refine WC.region ?_
  refine WL.quiet (Qt.move rfl) rfl rfl ?_
  refine WL.quiet (Qt.move rfl) rfl rfl ?_
  refine WL.quiet (Qt.lenS Tryz.underlying105 rfl) rfl rfl ?_
  refine WL.quiet (Qt.move rfl) rfl rfl ?_
  refine WL.quiet (Qt.cutMid Tryz.underlying105 ti9 rfl rfl rfl (by omega) (by omega)) rfl rfl ?_
  refine WL.loud (.take 0 rfl (.nil)) (Ld.clearR (i := (xs.take i ++ xs.drop j).length) (m := xs.length) Tryz.underlying105 ti9 rfl rfl rfl (Nat.le_refl _) (by omega) (by omega)) trivial rfl ?_
  rintro _ _ ⟨cur_1, rfl, rfl⟩
  refine WL.nil ?_
  refine WX.next ?_
  refine WC.seq ?_
  refine WC.region ?_
  refine WL.quiet (Qt.move rfl) rfl rfl ?_
  refine WL.quiet (Qt.assign rfl) rfl rfl ?_
  refine WL.nil ?_
  refine WX.next ?_
  refine WC.ret ?_
  refine WX.ret1 (.take 0 rfl (.nil)) rfl rfl ?_
  exact ⟨_, rfl, rfl⟩
theorem deleteStrW' (xs : List ByteArray) (b c i j n : Nat) (cur : List Value) (hn : xs.length = n) (hij : i ≤ j) (hj : j ≤ xs.length) : Spec μ Tryz.prog 73 #[.slice (some ⟨b, 0, none⟩) n c, .int .i64 ((i : Nat) : Int), .int .i64 ((j : Nat) : Int)] [rowL kStr 9 b c xs cur] fun v Δ => ∃ cur1, v = .slice (some ⟨b, 0, none⟩) (xs.take i ++ xs.drop j).length c ∧ Δ = [rowL kStr 9 b c (xs.take i ++ xs.drop j) cur1] := by
  subst hn
  exact deleteStrW xs b c i j cur hij hj

end Go.Proofs.YtolggjmgfijjfaaGreatDoor.Sep

/- A walk, printed by gen.py out of hints. -/
namespace Go.Proofs.YtolggjmgfijjfaaGreatDoor.Sep
open Go
variable {μ : Prop}
theorem topoSortW (cs : List Contact) (lb jp : ByteArray) (A B : Option Addr) (c nB d : Nat) (hlen : cs.length ≤ 100000) : Spec μ Tryz.prog 39 #[.agg [.string lb, .slice A cs.length c, .slice B nB d, .string jp].toArray] [rd kContact A c cs] fun v Δ => ∃ A1 c1 n e, v = .tuple [.slice A1 n c1, .int .i64 e].toArray ∧ Δ = [] ∧ (Acyclic cs ↔ e = 0) := by
 refine Spec.of_body (n := 37) Tryz.func39 rfl rfl rfl fun w0 S0 O0 => ?_
 show WC _ _ _ _ _ _ [(0, .agg [.string lb, .slice A cs.length c, .slice B nB d, .string jp].toArray)] [rd kContact A c cs]
 refine WC.learn (Z := Unit) (Δ := fun _ => []) (φ := fun _ => cs.length ≤ c ∧ c ≤ 9223372036854775807) 0 rfl (fun S w h => ⟨(), rd_bounds h, nofacts⟩) ?_
 rintro _ ⟨hb_1, hb_2⟩
 refine WC.seq ?_
 refine WC.region ?_
 refine WL.loud (.nil) (Ld.box rfl rfl) trivial rfl ?_
 rintro _ _ ⟨b_1, rfl, rfl⟩
 refine WL.quiet (Qt.assign rfl) rfl rfl ?_
 refine WL.quiet (Qt.assign rfl) rfl rfl ?_
 refine WL.nil ?_
 refine WX.next ?_
 refine WC.seq ?_
 refine WC.region ?_
 refine WL.quiet (Qt.loadBA 0 rfl ta25 ti25 rfl rfl) rfl rfl ?_
 refine WL.call (.u 1 rfl (.nil)) (Cl.func cb67 rfl) (nodesW cs _ _ _ _ _ _ _ (by omega)) trivial rfl ?_
 rintro _ _ ⟨A_1, c_1, rfl, rfl⟩
 have hnp := nodesF_pos cs
 refine WL.turn (.take 0 rfl (.nil)) (row_open (hnp)) ?_
 rintro _ ⟨b_2, cur_1, rfl, rfl⟩
 refine WL.learn (Z := Unit) (Δ := fun _ => []) (φ := fun _ => (nodesF cs).length ≤ c_1 ∧ c_1 ≤ 9223372036854775807) 0 rfl (fun S w h => ⟨(), rowL_bounds h, nofacts⟩) ?_
 rintro _ ⟨hb_3, hb_4⟩
 refine WL.quiet (Qt.assign rfl) rfl rfl ?_
 refine WL.nil ?_
 refine WX.next ?_
 refine WC.seq ?_
 refine WC.region ?_
 refine WL.loud (.nil) (Ld.makeMap (E := strKey) (V := Value.bool)) trivial rfl ?_
 rintro _ _ ⟨b_3, rfl, rfl⟩
 refine WL.loud (.nil) (Ld.alloc ti136 rfl) trivial rfl ?_
 rintro _ _ ⟨b_4, rfl, rfl⟩
 refine WL.loud (.take 0 rfl (.nil)) (Ld.store ti136 rfl rfl rfl rfl rfl rfl) trivial rfl ?_
 rintro _ _ rfl
 refine WL.nil ?_
 refine WX.next ?_
 refine WC.seq ?_
 refine WC.region ?_
 refine WL.quiet (Qt.assign rfl) rfl rfl ?_
 refine WL.nil ?_
 refine WX.next ?_
 refine WC.seq ?_
 refine WC.block ?_
 refine WC.turn (.nil) (nil_row (e := kStr) (t := 9)) ?_
 rintro _ rfl
 refine WC.loop (fun w0 : (List ByteArray) × (List Value) × (List ByteArray) × (Option Addr) × Nat × (List ByteArray) => [(1, .pointer (some ⟨b_1, 0, none⟩)), (2, .slice none 0 0), (3, .int .i64 0), (4, .slice (some ⟨b_2, 0, none⟩) w0.1.length c_1), (5, .pointer (some ⟨b_4, 0, none⟩)), (6, .slice w0.2.2.2.1 w0.2.2.2.2.2.length w0.2.2.2.2.1)]) (fun w0 => [row kStr 9 w0.2.2.2.1 w0.2.2.2.2.1 w0.2.2.2.2.2, blk b_4 136 [.map (some b_3)], mp strKey Value.bool b_3 (trues w0.2.2.1), rowL kStr 9 b_2 c_1 w0.1 w0.2.1, blk b_1 25 [.string lb, .slice A cs.length c, .slice B nB d, .string jp], rd kContact A c cs]) (fun w0 => w0.2.2.2.2.2.length + w0.1.length ≤ 300000 ∧ (∀ x, x ∈ nodesF cs → x ∈ w0.2.2.1 ∨ x ∈ w0.1) ∧ TopoI cs w0.2.2.1) (fun w0 => w0.1.length) (nodesF cs, cur_1, [], none, 0, []) ⟨by have := nodesF_len cs cs.length (Nat.le_refl _); rw [List.take_length] at this; simp; omega, fun x hx => .inr hx, TopoI.nil cs⟩ ⟨rfl, rfl, rfl, rfl, rfl, rfl, trivial⟩ (.take 0 rfl (.take 0 rfl (.take 0 rfl (.take 0 rfl (.take 0 rfl (.u 0 rfl (.nil))))))) ?_
 rintro ⟨left, cu, told, A1, c1, l⟩ ⟨hll, hinv, htop⟩
 try dsimp only at hll hinv htop
 show WC _ _ _ _ _ _ [(1, .pointer (some ⟨b_1, 0, none⟩)), (2, .slice none 0 0), (3, .int .i64 0), (4, .slice (some ⟨b_2, 0, none⟩) left.length c_1), (5, .pointer (some ⟨b_4, 0, none⟩)), (6, .slice A1 l.length c1)] [row kStr 9 A1 c1 l, blk b_4 136 [.map (some b_3)], mp strKey Value.bool b_3 (trues told), rowL kStr 9 b_2 c_1 left cu, blk b_1 25 [.string lb, .slice A cs.length c, .slice B nB d, .string jp], rd kContact A c cs]
 refine WC.seq ?_
 refine WC.seq ?_
 refine WC.region ?_
 refine WL.quiet (Qt.move rfl) rfl rfl ?_
 refine WL.quiet (Qt.lenS Tryz.underlying105 rfl) rfl rfl ?_
 refine WL.quiet (Qt.gtr rfl rfl) rfl rfl ?_
 refine WL.nil ?_
 refine WX.next ?_
 refine WC.condD rfl (fun hc_1 => ?_) (fun hc_1 => ?_)
 ·
  refine WC.skip ?_
  refine WX.next ?_
  refine WC.block ?_
  refine WC.seq ?_
  refine WC.region ?_
  refine WL.quiet (Qt.move rfl) rfl rfl ?_
  refine WL.quiet (Qt.makeFunc (vs := []) rfl rfl) rfl rfl ?_
  refine WL.turn (.take 4 rfl (.take 1 rfl (.take 1 rfl (.nil)))) (conj_pack) ?_
  rintro _ rfl
  refine WL.call (.take 2 rfl (.take 0 rfl (.u 1 rfl (.nil)))) (Cl.func cb68 rfl) (Spec.borrow (e := kStr) (Γp := [conj [blk b_1 25 [.string lb, .slice A cs.length c, .slice B nB d, .string jp], blk b_4 136 [.map (some b_3)], mp strKey Value.bool b_3 (trues told)]]) (U := [rd kContact A c cs]) (fun X hX => by obtain rfl := List.mem_singleton.1 hX; exact (free_conj (fun X hX => by simp only [List.mem_cons, List.not_mem_nil, or_false] at hX; rcases hX with rfl | rfl | rfl <;> first | exact free_blk _ _ _ | exact free_mp _ _ _ _))) (fun X hX => by obtain rfl := List.mem_singleton.1 hX; exact (fun _ h => h)) (fun S w h => h) (indexStrW left _ _ 69 [.pointer (some ⟨b_1, 0, none⟩), .pointer (some ⟨b_4, 0, none⟩)] (conj [blk b_1 25 [.string lb, .slice A cs.length c, .slice B nB d, .string jp], blk b_4 136 [.map (some b_3)], mp strKey Value.bool b_3 (trues told)]) (rd kContact A c cs) (toldP cs told) cb69 (fun _ h => h) (fun k hk => Spec.packed (U := [blk b_1 25 [.string lb, .slice A cs.length c, .slice B nB d, .string jp], blk b_4 136 [.map (some b_3)], mp strKey Value.bool b_3 (trues told)]) (V := [rd kContact A c cs]) (allToldW left[k] cs told _ _ _ _ _ _ _ b_1 b_4 b_3 hlen)))) trivial rfl ?_
  rintro _ _ ⟨rfl, rfl⟩
  refine WL.turn (.take 1 rfl (.nil)) (conj_unpack) ?_
  rintro _ rfl
  refine WL.quiet (Qt.assign rfl) rfl rfl ?_
  refine WL.nil ?_
  refine WX.next ?_
  refine WC.seq ?_
  refine WC.seq ?_
  refine WC.region ?_
  refine WL.quiet (Qt.move rfl) rfl rfl ?_
  refine WL.quiet (Qt.lss rfl rfl) rfl rfl ?_
  refine WL.nil ?_
  refine WX.next ?_
  refine WC.condD rfl (fun hc_2 => ?_) (fun hc_2 => ?_)
  ·
   refine WC.seq ?_
   refine WC.region ?_
   refine WL.quiet (Qt.assign rfl) rfl rfl ?_
   refine WL.quiet (Qt.assign rfl) rfl rfl ?_
   refine WL.nil ?_
   refine WX.next ?_
   refine WC.ret ?_
   refine WX.pass_ret ?_
   refine WX.block_ret ?_
   refine WX.pass_ret ?_
   refine WX.block_ret ?_
   refine WX.pass_ret ?_
   refine WX.ret2 (.nil) rfl rfl rfl ?_
   exact ⟨_, _, _, _, rfl, rfl, ⟨fun h => absurd h (topo_no (by omega) hinv (by omega)), fun h => absurd h (by decide)⟩⟩
  ·
   refine WC.skip ?_
   refine WX.next ?_
   refine WC.seq ?_
   obtain ⟨m, hm, hme, hmp⟩ := idxF_pos (p := toldP cs told) (xs := left) (by omega)
   rw [hme]
   have hj_1 : m < left.length := by omega
   refine WC.learn 3 rfl (rowL_at m hj_1 (vStr _)) ?_
   rintro _ hel_1
   refine WC.calm (Calm.then (Calm.inBlock (Calm.then (Calm.inBlock (Calm.then (calm_FQ _ _)))))) fun hC => ?_
   refine WC.draw (Γq := [blk b_1 25 [.string lb, .slice A cs.length c, .slice B nB d, .string jp], blk b_4 136 [.map (some b_3)], mp strKey Value.bool b_3 (trues told), rowL kStr 9 b_2 c_1 left cu, row kStr 9 A1 c1 l, rd kContact A c cs]) [0, 1, 2, 3, 4] mixed ?_
   refine WA.named (.take 0 rfl (.take 0 rfl (.take 0 rfl (.take 0 rfl (.take 0 rfl (.u 0 rfl (.nil))))))) fun sl_1 => ?_
   refine WA.tk 0 (by kernel_rfl) rfl hC (Qt.loadB 1 rfl ta136 rfl rfl) trivial rfl sl_1 ?_
   refine WA.tk 1 (by kernel_rfl) rfl hC (Qt.move rfl) trivial rfl sl_1 ?_
   refine WA.tk 2 (by kernel_rfl) rfl hC (Qt.move rfl) trivial rfl sl_1 ?_
   refine WA.tk 3 (by kernel_rfl) rfl hC (Qt.indexAddrB m Tryz.underlying105 ti9 rfl rfl (by first | assumption | omega)) trivial rfl sl_1 ?_
   refine WA.tk 4 (by kernel_rfl) rfl hC (Qt.loadR (j := m) (o := 0) 3 rfl hel_1 ta9 rfl rfl) trivial rfl sl_1 ?_
   refine WA.phase (K' := [0, 1, 2, 3, 4, 5]) (Γq' := [blk b_1 25 [.string lb, .slice A cs.length c, .slice B nB d, .string jp], blk b_4 136 [.map (some b_3)], rowL kStr 9 b_2 c_1 left cu, row kStr 9 A1 c1 l, rd kContact A c cs]) (by kernel_rfl) ?_
   refine WA.one 5 (by kernel_rfl) ?_
   refine WO.loud rfl (.take 2 rfl (.nil)) (Ld.update Tryz.underlying136 Tryz.underlying9 rfl rfl rfl) trivial rfl (by rintro _ _ rfl; exact ⟨_, (.take 1 rfl (.take 1 rfl (.take 1 rfl (.take 1 rfl (.u 1 rfl (.nil))))))⟩) ?_
   rintro _ _ rfl
   rw [mset_addN]
   refine WA.done (by kernel_rfl) ?_
   refine WX.next ?_
   refine WC.seq ?_
   refine WC.region ?_
   refine WL.quiet (Qt.move rfl) rfl rfl ?_
   refine WL.quiet (Qt.move rfl) rfl rfl ?_
   refine WL.quiet (Qt.move rfl) rfl rfl ?_
   refine WL.quiet (Qt.indexAddrB m Tryz.underlying105 ti9 rfl rfl (by first | assumption | omega)) rfl rfl ?_
   refine WL.quiet (Qt.loadR (j := m) (o := 0) 3 rfl hel_1 ta9 rfl rfl) rfl rfl ?_
   refine WL.loud (.nil) (Ld.buildSlice (zs := [.string (⟨#[]⟩ : ByteArray)]) Tryz.underlying105 ti9 rfl rfl (by kernel_rfl) rfl rfl) trivial rfl ?_
   rintro _ _ ⟨b_5, rfl, rfl⟩
   refine WL.loud (.take 5 rfl (.take 0 rfl (.nil))) (Ld.append1 (e := kStr) (xs := l) (left[m]) Tryz.underlying105 ti9 rfl (by decide) (by decide) rfl rfl (by first | omega | (simp; omega)) (fun S w h => rfl)) trivial rfl ?_
   rintro _ _ ⟨A_2, c_2, rfl, rfl⟩
   refine WL.quiet (Qt.assign rfl) rfl rfl ?_
   refine WL.nil ?_
   refine WX.next ?_
   refine WC.region ?_
   refine WL.quiet (Qt.move rfl) rfl rfl ?_
   refine WL.quiet (Qt.move rfl) rfl rfl ?_
   refine WL.quiet (Qt.move rfl) rfl rfl ?_
   refine WL.quiet (Qt.add rfl rfl (by omega)) rfl rfl ?_
   refine WL.call (.take 4 rfl (.nil)) (Cl.func cb73 rfl) (deleteStrW' left _ _ m (m + 1) _ _ rfl (by omega) (by omega)) trivial rfl ?_
   rintro _ _ ⟨cur_2, rfl, rfl⟩
   refine WL.quiet (Qt.assign rfl) rfl rfl ?_
   refine WL.nil ?_
   refine WX.block_end ?_
   exact WX.back ((left.take m ++ left.drop (m + 1)), cur_2, addN told left[m], A_2, c_2, l ++ [left[m]]) ⟨by dsimp only; simp only [List.length_append, List.length_take, List.length_drop, List.length_cons, List.length_nil]; omega, topo_step hm hinv, htop.step hmp⟩ (by dsimp only; simp only [List.length_append, List.length_take, List.length_drop]; omega) ⟨rfl, rfl, rfl, rfl, rfl, rfl, trivial⟩ (.take 1 rfl (.take 3 rfl (.take 1 rfl (.take 0 rfl (.take 0 rfl (.u 0 rfl (.nil)))))))
 ·
  refine WC.exit ?_
  refine WX.pass_exit ?_
  refine WX.pass_exit ?_
  refine WX.block_exit ?_
  refine WX.next ?_
  refine WC.seq ?_
  refine WC.region ?_
  refine WL.quiet (Qt.move rfl) rfl rfl ?_
  refine WL.quiet (Qt.assign rfl) rfl rfl ?_
  refine WL.quiet (Qt.assign rfl) rfl rfl ?_
  refine WL.nil ?_
  refine WX.next ?_
  refine WC.ret ?_
  refine WX.ret2 (.nil) rfl rfl rfl ?_
  exact ⟨_, _, _, _, rfl, rfl, ⟨fun _ => rfl, fun _ => htop.acyclic hinv (by omega)⟩⟩

end Go.Proofs.YtolggjmgfijjfaaGreatDoor.Sep

/- A walk, printed by gen.py out of hints. -/
namespace Go.Proofs.YtolggjmgfijjfaaGreatDoor.Sep
open Go
variable {μ : Prop}
theorem indexOfW (xs : List ByteArray) (x : ByteArray) (A : Option Addr) (c : Nat)  : Spec μ Tryz.prog 103 #[.slice A xs.length c, .string x] [rd kStr A c xs] fun v Δ => v = .int .i64 (idxF (fun y => decide (x = y)) xs) ∧ Δ = [] := by
 refine Spec.of_body (n := 19) Tryz.func103 rfl rfl rfl fun w0 S0 O0 => ?_
 show WC _ _ _ _ _ _ [(0, .slice A xs.length c), (1, .string x)] [rd kStr A c xs]
 refine WC.learn (Z := Unit) (Δ := fun _ => []) (φ := fun _ => xs.length ≤ c ∧ c ≤ 9223372036854775807) 0 rfl (fun S w h => ⟨(), rd_bounds h, nofacts⟩) ?_
 rintro _ ⟨hb_1, hb_2⟩
 refine WC.seq ?_
 refine WC.region ?_
 refine WL.quiet (Qt.assign rfl) rfl rfl ?_
 refine WL.nil ?_
 refine WX.next ?_
 refine WC.seq ?_
 refine WC.seq ?_
 refine WC.region ?_
 refine WL.quiet (Qt.move rfl) rfl rfl ?_
 refine WL.quiet (Qt.lenS Tryz.underlying105 rfl) rfl rfl ?_
 refine WL.quiet (Qt.move rfl) rfl rfl ?_
 refine WL.nil ?_
 refine WX.next ?_
 refine WC.block ?_
 refine WC.loop (fun w0 : Nat => [(0, .slice A xs.length c), (1, .string x), (4, .int .i64 0), (7, .int .i64 ((xs.length : Nat) : Int)), (8, .int .i64 ((w0 : Nat) : Int))]) (fun w0 => [rd kStr A c xs]) (fun w0 => w0 ≤ xs.length ∧ ∀ (j : Nat) (hj : j < xs.length), j < w0 → decide (x = xs[j]) = false) (fun w0 => xs.length - w0) 0 ⟨Nat.zero_le _, fun j _ h => absurd h (Nat.not_lt_zero _)⟩ ⟨rfl, rfl, rfl, rfl, rfl, trivial⟩ (.u 0 rfl (.nil)) ?_
 rintro k ⟨hk, hb⟩
 try dsimp only at hk hb
 show WC _ _ _ _ _ _ [(0, .slice A xs.length c), (1, .string x), (4, .int .i64 0), (7, .int .i64 ((xs.length : Nat) : Int)), (8, .int .i64 ((k : Nat) : Int))] [rd kStr A c xs]
 refine WC.seq ?_
 refine WC.region ?_
 refine WL.quiet (Qt.lss rfl rfl) rfl rfl ?_
 refine WL.nil ?_
 refine WX.next ?_
 refine WC.seq ?_
 refine WC.condD rfl (fun hc_1 => ?_) (fun hc_1 => ?_)
 ·
  refine WC.skip ?_
  refine WX.next ?_
  refine WC.seq ?_
  refine WC.block ?_
  refine WC.seq ?_
  refine WC.region ?_
  refine WL.quiet (Qt.move rfl) rfl rfl ?_
  refine WL.quiet (Qt.assign rfl) rfl rfl ?_
  refine WL.nil ?_
  refine WX.next ?_
  refine WC.seq ?_
  refine WC.region ?_
  refine WL.quiet (Qt.move rfl) rfl rfl ?_
  refine WL.quiet (Qt.move rfl) rfl rfl ?_
  refine WL.quiet (Qt.move rfl) rfl rfl ?_
  have hj_1 : k < xs.length := by omega
  refine WL.learn 0 rfl (rd_at k hj_1 (vStr _)) ?_
  rintro ⟨p_1, ⟨⟩⟩ hA_1
  refine WL.quiet (Qt.indexAddrE k hA_1 Tryz.underlying105 ti9 rfl rfl (by first | assumption | omega)) rfl rfl ?_
  refine WL.quiet (Qt.loadC (p := p_1.add (k * 1)) (o := 0) 0 rfl ta9 rfl rfl) rfl rfl ?_
  refine WL.quiet (Qt.seql rfl rfl) rfl rfl ?_
  refine WL.nil ?_
  refine WX.next ?_
  refine WC.condD rfl (fun hc_2 => ?_) (fun hc_2 => ?_)
  ·
   refine WC.seq ?_
   refine WC.region ?_
   refine WL.quiet (Qt.move rfl) rfl rfl ?_
   refine WL.quiet (Qt.assign rfl) rfl rfl ?_
   refine WL.nil ?_
   refine WX.next ?_
   refine WC.ret ?_
   refine WX.block_ret ?_
   refine WX.pass_ret ?_
   refine WX.pass_ret ?_
   refine WX.block_ret ?_
   refine WX.pass_ret ?_
   refine WX.ret1 (.nil) rfl rfl ?_
   exact ⟨by rw [idxF_at (p := fun y => decide (x = y)) (by omega) (decide_eq_true hc_2) hb], rfl⟩
  ·
   refine WC.skip ?_
   refine WX.block_end ?_
   refine WX.next ?_
   refine WC.region ?_
   refine WL.quiet (Qt.add rfl rfl (by omega)) rfl rfl ?_
   refine WL.quiet (Qt.move rfl) rfl rfl ?_
   refine WL.nil ?_
   exact WX.back (k + 1) ⟨by omega, notyet (p := fun y => decide (x = y)) hb (by omega) (decide_eq_false hc_2)⟩ (by first | omega | (dsimp only; omega) | (simp; omega)) ⟨rfl, rfl, rfl, rfl, rfl, trivial⟩ (.u 1 rfl (.nil))
 ·
  refine WC.exit ?_
  refine WX.pass_exit ?_
  refine WX.pass_exit ?_
  refine WX.block_exit ?_
  refine WX.next ?_
  refine WC.seq ?_
  refine WC.region ?_
  refine WL.quiet (Qt.assign rfl) rfl rfl ?_
  refine WL.nil ?_
  refine WX.next ?_
  refine WC.ret ?_
  refine WX.ret1 (.nil) rfl rfl ?_
  exact ⟨by rw [idxF_none (p := fun y => decide (x = y)) (fun j hj => hb j hj (by omega))], rfl⟩

end Go.Proofs.YtolggjmgfijjfaaGreatDoor.Sep

/- A walk, printed by gen.py out of hints. -/
namespace Go.Proofs.YtolggjmgfijjfaaGreatDoor.Sep
open Go
variable {μ : Prop}
theorem containsW (xs : List ByteArray) (x : ByteArray) (A : Option Addr) (c : Nat)  : Spec μ Tryz.prog 78 #[.slice A xs.length c, .string x] [rd kStr A c xs] fun v Δ => v = .bool (yes (x ∈ xs)) ∧ Δ = [] := by
 refine Spec.of_body (n := 9) Tryz.func78 rfl rfl rfl fun w0 S0 O0 => ?_
 show WC _ _ _ _ _ _ [(0, .slice A xs.length c), (1, .string x)] [rd kStr A c xs]
 refine WC.seq ?_
 refine WC.region ?_
 refine WL.quiet (Qt.assign rfl) rfl rfl ?_
 refine WL.nil ?_
 refine WX.next ?_
 refine WC.seq ?_
 refine WC.region ?_
 refine WL.quiet (Qt.move rfl) rfl rfl ?_
 refine WL.quiet (Qt.move rfl) rfl rfl ?_
 refine WL.call (.u 0 rfl (.nil)) (Cl.func cb103 rfl) (indexOfW xs x _ _) trivial rfl ?_
 rintro _ _ ⟨rfl, rfl⟩
 refine WL.quiet (Qt.geq rfl rfl) rfl rfl ?_
 refine WL.quiet (Qt.assign rfl) rfl rfl ?_
 refine WL.nil ?_
 refine WX.next ?_
 refine WC.ret ?_
 refine WX.ret1 (.nil) rfl rfl ?_
 exact ⟨by rw [idxF_any, any_eq_yes], rfl⟩

end Go.Proofs.YtolggjmgfijjfaaGreatDoor.Sep

/- A walk, printed by gen.py out of hints. -/
namespace Go.Proofs.YtolggjmgfijjfaaGreatDoor.Sep
open Go
variable {μ : Prop}
theorem visitW_ih (m : Nat) : ∀ (n : ByteArray) (ks : List ByteArray) (U : List ByteArray) (Ed : ByteArray → ByteArray → Prop) (fid b1 b2 b3 bm : Nat) (us : List Value) (F E : Fact), unseen U ks < m → (Callable Tryz.prog fid) → (∀ k, ¬ E.own k) → (∀ n : ByteArray, Spec μ Tryz.prog fid ([Value.string n] ++ us).toArray [F, E] fun v Δ => ∃ A c l, v = .slice A l.length c ∧ Δ = [row kStr 9 A c l, F] ∧ l.length ≤ 100000 ∧ ∀ m, m ∈ l ↔ Ed n m) → (∀ x y, x ∈ U → Ed x y → y ∈ U) → (n ∈ U) → Spec μ Tryz.prog 122 #[.string n, .pointer (some ⟨b1, 0, none⟩), .pointer (some ⟨b2, 0, none⟩), .pointer (some ⟨b3, 0, none⟩)] [blk b1 136 [.map (some bm)], mp strKey Value.bool bm (trues ks), blk b2 164 [.func (.func fid) #[] us.toArray], blk b3 186 [.func (.func 122) #[] [.pointer (some ⟨b1, 0, none⟩), .pointer (some ⟨b2, 0, none⟩), .pointer (some ⟨b3, 0, none⟩)].toArray], F, E] fun v Δ => ∃ ks1, v = .tuple #[] ∧ Δ = [blk b1 136 [.map (some bm)], mp strKey Value.bool bm (trues ks1), blk b2 164 [.func (.func fid) #[] us.toArray], blk b3 186 [.func (.func 122) #[] [.pointer (some ⟨b1, 0, none⟩), .pointer (some ⟨b2, 0, none⟩), .pointer (some ⟨b3, 0, none⟩)].toArray], F] ∧ Visit Ed ks n ks1 := by
 induction m with
 | zero => exact fun n ks U Ed fid b1 b2 b3 bm us F E h => absurd h (Nat.not_lt_zero _)
 | succ m ih =>
 intro n ks U Ed fid b1 b2 b3 bm us F E hsz hcall hE hs hU hn
 refine Spec.of_body (n := 24) Tryz.func122 rfl rfl rfl fun w0 S0 O0 => ?_
 show WC _ _ _ _ _ _ [(0, .string n), (1, .pointer (some ⟨b1, 0, none⟩)), (2, .pointer (some ⟨b2, 0, none⟩)), (3, .pointer (some ⟨b3, 0, none⟩))] [blk b1 136 [.map (some bm)], mp strKey Value.bool bm (trues ks), blk b2 164 [.func (.func fid) #[] us.toArray], blk b3 186 [.func (.func 122) #[] [.pointer (some ⟨b1, 0, none⟩), .pointer (some ⟨b2, 0, none⟩), .pointer (some ⟨b3, 0, none⟩)].toArray], F, E]
 refine WC.seq ?_
 refine WC.seq ?_
 refine WC.region ?_
 refine WL.quiet (Qt.loadB 0 rfl ta136 rfl rfl) rfl rfl ?_
 refine WL.quiet (Qt.move rfl) rfl rfl ?_
 refine WL.quiet (Qt.lookup (z := false) 1 rfl Tryz.underlying136 Tryz.underlying9 ti4 rfl rfl) rfl rfl ?_
 refine WL.nil ?_
 refine WX.next ?_
 refine WC.cond rfl (fun hc_1 => ?_) (fun hc_1 => ?_)
 ·
  refine WC.ret ?_
  refine WX.pass_ret ?_
  refine WX.ret0 (.take 0 rfl (.take 0 rfl (.take 0 rfl (.take 0 rfl (.take 0 rfl (.nil)))))) rfl ?_
  exact ⟨_, rfl, rfl, Visit.seen (look_yes (k := n) (ks := ks) hc_1)⟩
 ·
  refine WC.skip ?_
  refine WX.next ?_
  refine WC.seq ?_
  refine WC.region ?_
  refine WL.quiet (Qt.loadB 0 rfl ta136 rfl rfl) rfl rfl ?_
  refine WL.quiet (Qt.move rfl) rfl rfl ?_
  refine WL.loud (.take 1 rfl (.nil)) (Ld.update Tryz.underlying136 Tryz.underlying9 rfl rfl rfl) trivial rfl ?_
  rintro _ _ rfl
  have hnew : n ∉ ks := look_no (k := n) (ks := ks) (by simpa using hc_1)
  rw [mset_new hnew]
  refine WL.nil ?_
  refine WX.next ?_
  refine WC.seq ?_
  refine WC.region ?_
  refine WL.quiet (Qt.loadB 2 rfl ta164 rfl rfl) rfl rfl ?_
  refine WL.quiet (Qt.move rfl) rfl rfl ?_
  refine WL.call (.take 4 rfl (.use 4 rfl hE (.nil))) (Cl.val hcall rfl rfl) (hs n) trivial rfl ?_
  rintro _ _ ⟨A_1, c_1, l_1, rfl, rfl, hl_1, hm_1⟩
  refine WL.turn (.take 0 rfl (.nil)) (freeze_row) ?_
  rintro _ rfl
  refine WL.quiet (Qt.lenS Tryz.underlying105 rfl) rfl rfl ?_
  refine WL.quiet (Qt.move rfl) rfl rfl ?_
  refine WL.nil ?_
  refine WX.next ?_
  refine WC.block ?_
  refine WC.loop (fun w0 : Nat × (List ByteArray) => [(3, .pointer (some ⟨b3, 0, none⟩)), (14, .slice A_1 l_1.length c_1), (15, .int .i64 ((l_1.length : Nat) : Int)), (16, .int .i64 ((w0.1 : Nat) : Int))]) (fun w0 => [rd kStr A_1 c_1 l_1, F, mp strKey Value.bool bm (trues w0.2), blk b1 136 [.map (some bm)], blk b2 164 [.func (.func fid) #[] us.toArray], blk b3 186 [.func (.func 122) #[] [.pointer (some ⟨b1, 0, none⟩), .pointer (some ⟨b2, 0, none⟩), .pointer (some ⟨b3, 0, none⟩)].toArray], E]) (fun w0 => w0.1 ≤ l_1.length ∧ VInv Ed ks n l_1 w0.1 w0.2) (fun w0 => l_1.length - w0.1) (0, ks ++ [n]) ⟨Nat.zero_le _, VInv.init⟩ ⟨rfl, rfl, rfl, rfl, trivial⟩ (.u 0 rfl (.take 1 rfl (.take 1 rfl (.take 1 rfl (.take 1 rfl (.take 1 rfl (.use 1 rfl hE (.nil)))))))) ?_
  rintro ⟨k, ks2⟩ ⟨hk, hinv⟩
  try dsimp only at hk hinv
  show WC _ _ _ _ _ _ [(3, .pointer (some ⟨b3, 0, none⟩)), (14, .slice A_1 l_1.length c_1), (15, .int .i64 ((l_1.length : Nat) : Int)), (16, .int .i64 ((k : Nat) : Int))] [rd kStr A_1 c_1 l_1, F, mp strKey Value.bool bm (trues ks2), blk b1 136 [.map (some bm)], blk b2 164 [.func (.func fid) #[] us.toArray], blk b3 186 [.func (.func 122) #[] [.pointer (some ⟨b1, 0, none⟩), .pointer (some ⟨b2, 0, none⟩), .pointer (some ⟨b3, 0, none⟩)].toArray], E]
  refine WC.seq ?_
  refine WC.region ?_
  refine WL.quiet (Qt.lss rfl rfl) rfl rfl ?_
  refine WL.nil ?_
  refine WX.next ?_
  refine WC.seq ?_
  refine WC.condD rfl (fun hc_2 => ?_) (fun hc_2 => ?_)
  ·
   refine WC.skip ?_
   refine WX.next ?_
   refine WC.seq ?_
   refine WC.block ?_
   refine WC.seq ?_
   refine WC.region ?_
   have hj_1 : k < l_1.length := by omega
   refine WL.learn 0 rfl (rd_at k hj_1 (vStr _)) ?_
   rintro ⟨p_1, ⟨⟩⟩ hA_1
   refine WL.quiet (Qt.indexAddrE k hA_1 Tryz.underlying105 ti9 rfl rfl (by first | assumption | omega)) rfl rfl ?_
   refine WL.quiet (Qt.loadC (p := p_1.add (k * 1)) (o := 0) 0 rfl ta9 rfl rfl) rfl rfl ?_
   refine WL.quiet (Qt.assign rfl) rfl rfl ?_
   refine WL.nil ?_
   refine WX.next ?_
   refine WC.region ?_
   refine WL.quiet (Qt.loadB 6 rfl ta186 rfl rfl) rfl rfl ?_
   refine WL.quiet (Qt.move rfl) rfl rfl ?_
   refine WL.call (.take 4 rfl (.take 3 rfl (.take 3 rfl (.take 3 rfl (.take 2 rfl (.use 2 rfl hE (.nil))))))) (Cl.val cb122 rfl rfl) (ih (l_1[k]) ks2 U Ed fid b1 b2 b3 bm us F E (by have := unseen_lt (U := U) hinv.1 hn hnew hinv.2.1; omega) hcall hE hs hU (hU n _ hn ((hm_1 _).1 (List.getElem_mem _)))) trivial rfl ?_
   rintro _ _ ⟨ks_1, rfl, rfl, hv_1⟩
   refine WL.nil ?_
   refine WX.block_end ?_
   refine WX.next ?_
   refine WC.region ?_
   refine WL.quiet (Qt.add rfl rfl (by omega)) rfl rfl ?_
   refine WL.quiet (Qt.move rfl) rfl rfl ?_
   refine WL.nil ?_
   exact WX.back (k + 1, ks_1) ⟨by omega, hinv.step (by omega) ((hm_1 _).1 (List.getElem_mem _)) hv_1⟩ (by first | omega | (dsimp only; omega) | (simp; omega)) ⟨rfl, rfl, rfl, rfl, trivial⟩ (.u 6 rfl (.take 4 rfl (.take 1 rfl (.take 0 rfl (.take 0 rfl (.take 0 rfl (.use 2 rfl hE (.nil))))))))
  ·
   refine WC.exit ?_
   refine WX.pass_exit ?_
   refine WX.pass_exit ?_
   refine WX.block_exit ?_
   refine WX.end0 (.take 3 rfl (.take 2 rfl (.take 2 rfl (.take 2 rfl (.take 1 rfl (.nil)))))) rfl ?_
   exact ⟨_, rfl, rfl, hinv.fin (by omega) fun y hy => (hm_1 y).2 hy⟩
theorem visitW (n : ByteArray) (ks : List ByteArray) (U : List ByteArray) (Ed : ByteArray → ByteArray → Prop) (fid b1 b2 b3 bm : Nat) (us : List Value) (F E : Fact) (hcall : Callable Tryz.prog fid) (hE : ∀ k, ¬ E.own k) (hs : ∀ n : ByteArray, Spec μ Tryz.prog fid ([Value.string n] ++ us).toArray [F, E] fun v Δ => ∃ A c l, v = .slice A l.length c ∧ Δ = [row kStr 9 A c l, F] ∧ l.length ≤ 100000 ∧ ∀ m, m ∈ l ↔ Ed n m) (hU : ∀ x y, x ∈ U → Ed x y → y ∈ U) (hn : n ∈ U) : Spec μ Tryz.prog 122 #[.string n, .pointer (some ⟨b1, 0, none⟩), .pointer (some ⟨b2, 0, none⟩), .pointer (some ⟨b3, 0, none⟩)] [blk b1 136 [.map (some bm)], mp strKey Value.bool bm (trues ks), blk b2 164 [.func (.func fid) #[] us.toArray], blk b3 186 [.func (.func 122) #[] [.pointer (some ⟨b1, 0, none⟩), .pointer (some ⟨b2, 0, none⟩), .pointer (some ⟨b3, 0, none⟩)].toArray], F, E] fun v Δ => ∃ ks1, v = .tuple #[] ∧ Δ = [blk b1 136 [.map (some bm)], mp strKey Value.bool bm (trues ks1), blk b2 164 [.func (.func fid) #[] us.toArray], blk b3 186 [.func (.func 122) #[] [.pointer (some ⟨b1, 0, none⟩), .pointer (some ⟨b2, 0, none⟩), .pointer (some ⟨b3, 0, none⟩)].toArray], F] ∧ Visit Ed ks n ks1 := visitW_ih _ n ks U Ed fid b1 b2 b3 bm us F E (Nat.lt_succ_self _) hcall hE hs hU hn

end Go.Proofs.YtolggjmgfijjfaaGreatDoor.Sep

/- A walk, printed by gen.py out of hints. -/
namespace Go.Proofs.YtolggjmgfijjfaaGreatDoor.Sep
open Go
variable {μ : Prop}
theorem unseenW (n : ByteArray) (ks : List ByteArray) (b1 bm : Nat)  : Spec μ Tryz.prog 123 #[.string n, .pointer (some ⟨b1, 0, none⟩)] [blk b1 136 [.map (some bm)], mp strKey Value.bool bm (trues ks)] fun v Δ => v = .bool (!yes (n ∈ ks)) ∧ Δ = [blk b1 136 [.map (some bm)], mp strKey Value.bool bm (trues ks)] := by
 refine Spec.of_body (n := 8) Tryz.func123 rfl rfl rfl fun w0 S0 O0 => ?_
 show WC _ _ _ _ _ _ [(0, .string n), (1, .pointer (some ⟨b1, 0, none⟩))] [blk b1 136 [.map (some bm)], mp strKey Value.bool bm (trues ks)]
 refine WC.seq ?_
 refine WC.region ?_
 refine WL.quiet (Qt.assign rfl) rfl rfl ?_
 refine WL.nil ?_
 refine WX.next ?_
 refine WC.seq ?_
 refine WC.region ?_
 refine WL.quiet (Qt.loadB 0 rfl ta136 rfl rfl) rfl rfl ?_
 refine WL.quiet (Qt.move rfl) rfl rfl ?_
 refine WL.quiet (Qt.lookup (z := false) 1 rfl Tryz.underlying136 Tryz.underlying9 ti4 rfl rfl) rfl rfl ?_
 refine WL.quiet (Qt.not rfl) rfl rfl ?_
 refine WL.quiet (Qt.assign rfl) rfl rfl ?_
 refine WL.nil ?_
 refine WX.next ?_
 refine WC.ret ?_
 refine WX.ret1 (.take 0 rfl (.take 0 rfl (.nil))) rfl rfl ?_
 exact ⟨by rw [look_is_yes], rfl⟩

end Go.Proofs.YtolggjmgfijjfaaGreatDoor.Sep

/- A walk, printed by gen.py out of hints. -/
namespace Go.Proofs.YtolggjmgfijjfaaGreatDoor.Sep
open Go
variable {μ : Prop}
theorem deleteFuncW (xs : List ByteArray) (b c fid : Nat) (cur us : List Value) (F E : Fact) (p : ByteArray → Bool) (hcall : Callable Tryz.prog fid) (hE : ∀ k, ¬ E.own k) (hfree : Free F) (hf : ∀ x : ByteArray, Spec μ Tryz.prog fid ([Value.string x] ++ us).toArray [F, E] fun v Δ => v = .bool (p x) ∧ Δ = [F]) : Spec μ Tryz.prog 76 #[.slice (some ⟨b, 0, none⟩) xs.length c, .func (.func fid) #[] us.toArray] [rowL kStr 9 b c xs cur, F, E] fun v Δ => ∃ cur1, v = .slice (some ⟨b, 0, none⟩) (xs.filter fun x => !p x).length c ∧ Δ = [rowL kStr 9 b c (xs.filter fun x => !p x) cur1, F] := by
 refine Spec.of_body (n := 42) Tryz.func76 rfl rfl rfl fun w0 S0 O0 => ?_
 show WC _ _ _ _ _ _ [(0, .slice (some ⟨b, 0, none⟩) xs.length c), (1, .func (.func fid) #[] us.toArray)] [rowL kStr 9 b c xs cur, F, E]
 refine WC.learn (Z := Unit) (Δ := fun _ => []) (φ := fun _ => xs.length ≤ c ∧ c ≤ 9223372036854775807) 0 rfl (fun S w h => ⟨(), rowL_bounds h, nofacts⟩) ?_
 rintro _ ⟨hb_1, hb_2⟩
 refine WC.seq ?_
 refine WC.region ?_
 refine WL.quiet (Qt.assign rfl) rfl rfl ?_
 refine WL.nil ?_
 refine WX.next ?_
 refine WC.seq ?_
 refine WC.region ?_
 refine WL.quiet (Qt.move rfl) rfl rfl ?_
 refine WL.quiet (Qt.move rfl) rfl rfl ?_
 refine WL.call (.take 0 rfl (.take 0 rfl (.use 0 rfl hE (.nil)))) (Cl.func cb68 rfl) (Spec.borrow (e := kStr) (Γp := [F]) (U := [E]) (fun X hX => by obtain rfl := List.mem_singleton.1 hX; exact hfree) (fun X hX => by obtain rfl := List.mem_singleton.1 hX; exact hE) (fun S w h => h) (indexStrW xs _ _ fid us F E p hcall hE (fun k hk => hf xs[k]))) trivial rfl ?_
 rintro _ _ ⟨rfl, rfl⟩
 refine WL.quiet (Qt.assign rfl) rfl rfl ?_
 refine WL.nil ?_
 refine WX.next ?_
 refine WC.seq ?_
 refine WC.seq ?_
 refine WC.region ?_
 refine WL.quiet (Qt.move rfl) rfl rfl ?_
 refine WL.quiet (Qt.eql rfl rfl) rfl rfl ?_
 refine WL.nil ?_
 refine WX.next ?_
 refine WC.condD rfl (fun hc_1 => ?_) (fun hc_1 => ?_)
 ·
  refine WC.seq ?_
  refine WC.region ?_
  refine WL.quiet (Qt.move rfl) rfl rfl ?_
  refine WL.quiet (Qt.assign rfl) rfl rfl ?_
  refine WL.nil ?_
  refine WX.next ?_
  refine WC.ret ?_
  refine WX.pass_ret ?_
  rw [show xs.filter (fun x => !p x) = xs from del_none (by omega)]
  refine WX.ret1 (.take 0 rfl (.take 0 rfl (.nil))) rfl rfl ?_
  exact ⟨_, rfl, rfl⟩
 ·
  refine WC.skip ?_
  refine WX.next ?_
  refine WC.seq ?_
  refine WC.seq ?_
  have hge := idxF_ge p xs
  obtain ⟨i0, hi0, hie, hip, hib⟩ := idxF_first (p := p) (xs := xs) (by omega)
  rw [hie]
  refine WC.region ?_
  refine WL.quiet (Qt.move rfl) rfl rfl ?_
  refine WL.quiet (Qt.add rfl rfl (by omega)) rfl rfl ?_
  refine WL.quiet (Qt.assign rfl) rfl rfl ?_
  refine WL.nil ?_
  refine WX.next ?_
  refine WC.block ?_
  refine WC.loop (fun w0 : Nat × Nat × (List ByteArray) × (List Value) => [(0, .slice (some ⟨b, 0, none⟩) xs.length c), (1, .func (.func fid) #[] us.toArray), (4, .slice none 0 0), (5, .int .i64 ((w0.1 : Nat) : Int)), (6, .int .i64 ((w0.2.1 : Nat) : Int))]) (fun w0 => [rowL kStr 9 b c w0.2.2.1 w0.2.2.2, F, E]) (fun w0 => DelInv p xs w0.2.2.1 w0.1 w0.2.1) (fun w0 => xs.length - w0.2.1) (i0, i0 + 1, xs, cur) (DelInv.init hi0 hip hib) ⟨rfl, rfl, rfl, rfl, rfl, trivial⟩ (.take 0 rfl (.take 0 rfl (.use 0 rfl hE (.nil)))) ?_
  rintro ⟨i, j, ys, cu⟩ hinv
  try dsimp only at hinv
  have hyl := hinv.1
  have hij := hinv.2.1
  have hjl := hinv.2.2.1
  show WC _ _ _ _ _ _ [(0, .slice (some ⟨b, 0, none⟩) xs.length c), (1, .func (.func fid) #[] us.toArray), (4, .slice none 0 0), (5, .int .i64 ((i : Nat) : Int)), (6, .int .i64 ((j : Nat) : Int))] [rowL kStr 9 b c ys cu, F, E]
  refine WC.seq ?_
  refine WC.seq ?_
  refine WC.region ?_
  refine WL.quiet (Qt.move rfl) rfl rfl ?_
  refine WL.quiet (Qt.move rfl) rfl rfl ?_
  refine WL.quiet (Qt.lenS Tryz.underlying105 rfl) rfl rfl ?_
  refine WL.quiet (Qt.lss rfl rfl) rfl rfl ?_
  refine WL.nil ?_
  refine WX.next ?_
  refine WC.condD rfl (fun hc_2 => ?_) (fun hc_2 => ?_)
  ·
   refine WC.skip ?_
   refine WX.next ?_
   refine WC.seq ?_
   refine WC.block ?_
   refine WC.seq ?_
   refine WC.region ?_
   refine WL.quiet (Qt.move rfl) rfl rfl ?_
   refine WL.quiet (Qt.move rfl) rfl rfl ?_
   have hj_1 : j < ys.length := by omega
   refine WL.learn 0 rfl (rowL_at j hj_1 (vStr _)) ?_
   rintro _ hel_1
   refine WL.quiet (Qt.indexAddrB j Tryz.underlying105 ti9 rfl rfl (by first | assumption | omega)) rfl rfl ?_
   refine WL.quiet (Qt.loadR (j := j) (o := 0) 0 rfl hel_1 ta9 rfl rfl) rfl rfl ?_
   refine WL.quiet (Qt.assign rfl) rfl rfl ?_
   refine WL.nil ?_
   refine WX.next ?_
   refine WC.seq ?_
   refine WC.region ?_
   refine WL.quiet (Qt.move rfl) rfl rfl ?_
   refine WL.quiet (Qt.move rfl) rfl rfl ?_
   refine WL.call (.take 1 rfl (.use 1 rfl hE (.nil))) (Cl.val hcall rfl rfl) (hf (ys[j])) trivial rfl ?_
   rintro _ _ ⟨rfl, rfl⟩
   refine WL.quiet (Qt.not rfl) rfl rfl ?_
   refine WL.nil ?_
   refine WX.next ?_
   refine WC.cond rfl (fun hc_3 => ?_) (fun hc_3 => ?_)
   ·
    have hp : p ys[j] = false := by simpa using hc_3
    refine WC.seq ?_
    refine WC.region ?_
    refine WL.quiet (Qt.move rfl) rfl rfl ?_
    refine WL.quiet (Qt.move rfl) rfl rfl ?_
    refine WL.quiet (Qt.move rfl) rfl rfl ?_
    have hj_2 : i < ys.length := by omega
    refine WL.learn 1 rfl (rowL_at i hj_2 (vStr _)) ?_
    rintro _ hel_2
    refine WL.quiet (Qt.indexAddrB i Tryz.underlying105 ti9 rfl rfl (by first | assumption | omega)) rfl rfl ?_
    refine WL.loud (.take 1 rfl (.nil)) (Ld.storeR (j := i) (o := 0) (ys[j]) (by first | assumption | omega | (simp; omega)) hel_2 ti9 rfl rfl rfl rfl rfl rfl (fun S w h => rfl)) trivial rfl ?_
    rintro _ _ ⟨cur_1, hel_3, hoth_1, rfl⟩
    refine WL.nil ?_
    refine WX.next ?_
    refine WC.region ?_
    refine WL.quiet (Qt.move rfl) rfl rfl ?_
    refine WL.quiet (Qt.add rfl rfl (by omega)) rfl rfl ?_
    refine WL.quiet (Qt.assign rfl) rfl rfl ?_
    refine WL.nil ?_
    refine WX.block_end ?_
    refine WX.next ?_
    refine WC.region ?_
    refine WL.quiet (Qt.move rfl) rfl rfl ?_
    refine WL.quiet (Qt.add rfl rfl (by omega)) rfl rfl ?_
    refine WL.quiet (Qt.assign rfl) rfl rfl ?_
    refine WL.nil ?_
    exact WX.back (i + 1, j + 1, ys.set i (ys[j]), cur_1) (by first | exact hinv.keep (by omega) hp | exact hinv.drop (by omega) hp) (by first | omega | (dsimp only; omega)) ⟨rfl, rfl, rfl, rfl, rfl, trivial⟩ (.take 0 rfl (.take 0 rfl (.use 0 rfl hE (.nil))))
   ·
    have hp : p ys[j] = true := by simpa using hc_3
    refine WC.skip ?_
    refine WX.block_end ?_
    refine WX.next ?_
    refine WC.region ?_
    refine WL.quiet (Qt.move rfl) rfl rfl ?_
    refine WL.quiet (Qt.add rfl rfl (by omega)) rfl rfl ?_
    refine WL.quiet (Qt.assign rfl) rfl rfl ?_
    refine WL.nil ?_
    exact WX.back (i, j + 1, ys, cu) (by first | exact hinv.keep (by omega) hp | exact hinv.drop (by omega) hp) (by first | omega | (dsimp only; omega)) ⟨rfl, rfl, rfl, rfl, rfl, trivial⟩ (.take 1 rfl (.take 0 rfl (.use 0 rfl hE (.nil))))
  ·
   refine WC.exit ?_
   refine WX.pass_exit ?_
   refine WX.pass_exit ?_
   refine WX.block_exit ?_
   refine WX.next ?_
   refine WC.seq ?_
   refine WC.region ?_
   refine WL.quiet (Qt.move rfl) rfl rfl ?_
   refine WL.quiet (Qt.move rfl) rfl rfl ?_
   refine WL.turn (.take 0 rfl (.nil)) (rowL_take i) ?_
   rintro _ rfl
   refine WL.quiet (Qt.cutLowB Tryz.underlying105 ti9 rfl rfl (by omega) (by omega)) rfl rfl ?_
   refine WL.loud (.take 0 rfl (.nil)) (Ld.clearR (i := i) (m := xs.length) Tryz.underlying105 ti9 rfl rfl rfl (by rw [List.length_take]; omega) (by omega) (by omega)) trivial rfl ?_
   rintro _ _ ⟨cur_2, rfl, rfl⟩
   refine WL.nil ?_
   refine WX.next ?_
   refine WC.seq ?_
   refine WC.region ?_
   refine WL.quiet (Qt.move rfl) rfl rfl ?_
   refine WL.quiet (Qt.move rfl) rfl rfl ?_
   refine WL.quiet (Qt.cutHigh Tryz.underlying105 ti9 rfl rfl (by omega)) rfl rfl ?_
   refine WL.quiet (Qt.assign rfl) rfl rfl ?_
   refine WL.nil ?_
   refine WX.next ?_
   refine WC.ret ?_
   have hfin := hinv.fin (by omega)
   rw [hfin.1]
   obtain ⟨hfa, hfb⟩ := hfin
   subst hfb
   refine WX.ret1 (.take 0 rfl (.take 0 rfl (.nil))) rfl rfl ?_
   exact ⟨_, rfl, rfl⟩

end Go.Proofs.YtolggjmgfijjfaaGreatDoor.Sep

/- A walk, printed by gen.py out of hints. -/
namespace Go.Proofs.YtolggjmgfijjfaaGreatDoor.Sep
open Go
variable {μ : Prop}
theorem gatherW (cs : List Contact) (lb jp : ByteArray) (A B : Option Addr) (c nB d fid : Nat) (node : ByteArray) (us : List Value) (F E : Fact) (Ed : ByteArray → ByteArray → Prop) (hlen : cs.length ≤ 100000) (hcall : Callable Tryz.prog fid) (hE : ∀ k, ¬ E.own k) (hs : ∀ n : ByteArray, Spec μ Tryz.prog fid ([Value.string n] ++ us).toArray [F, E] fun v Δ => ∃ A c l, v = .slice A l.length c ∧ Δ = [row kStr 9 A c l, F] ∧ l.length ≤ 100000 ∧ ∀ m, m ∈ l ↔ Ed n m) (hU : ∀ x y, x ∈ nodesF cs → Ed x y → y ∈ nodesF cs) : Spec μ Tryz.prog 99 #[.agg [.string lb, .slice A cs.length c, .slice B nB d, .string jp].toArray, .string node, .func (.func fid) #[] us.toArray] [rd kContact A c cs, F, E] fun v Δ => ∃ A1 c1 l, v = .slice A1 l.length c1 ∧ Δ = [row kStr 9 A1 c1 l, F] ∧ ∀ x, x ∈ l ↔ x ∈ nodesF cs ∧ node ∈ nodesF cs ∧ RT Ed node x := by
 refine Spec.of_body (n := 24) Tryz.func99 rfl rfl rfl fun w0 S0 O0 => ?_
 show WC _ _ _ _ _ _ [(0, .agg [.string lb, .slice A cs.length c, .slice B nB d, .string jp].toArray), (1, .string node), (2, .func (.func fid) #[] us.toArray)] [rd kContact A c cs, F, E]
 refine WC.seq ?_
 refine WC.region ?_
 refine WL.loud (.nil) (Ld.box rfl rfl) trivial rfl ?_
 rintro _ _ ⟨b_1, rfl, rfl⟩
 refine WL.loud (.nil) (Ld.box rfl rfl) trivial rfl ?_
 rintro _ _ ⟨b_2, rfl, rfl⟩
 refine WL.quiet (Qt.assign rfl) rfl rfl ?_
 refine WL.nil ?_
 refine WX.next ?_
 refine WC.seq ?_
 refine WC.region ?_
 refine WL.quiet (Qt.loadBA 1 rfl ta25 ti25 rfl rfl) rfl rfl ?_
 refine WL.call (.u 2 rfl (.nil)) (Cl.func cb67 rfl) (nodesW cs _ _ _ _ _ _ _ (by omega)) trivial rfl ?_
 rintro _ _ ⟨A_1, c_1, rfl, rfl⟩
 have hnp := nodesF_pos cs
 refine WL.turn (.take 0 rfl (.nil)) (row_open (hnp)) ?_
 rintro _ ⟨b_3, cur_1, rfl, rfl⟩
 refine WL.learn (Z := Unit) (Δ := fun _ => []) (φ := fun _ => (nodesF cs).length ≤ c_1 ∧ c_1 ≤ 9223372036854775807) 0 rfl (fun S w h => ⟨(), rowL_bounds h, nofacts⟩) ?_
 rintro _ ⟨hb_1, hb_2⟩
 refine WL.quiet (Qt.assign rfl) rfl rfl ?_
 refine WL.nil ?_
 refine WX.next ?_
 refine WC.seq ?_
 refine WC.seq ?_
 refine WC.region ?_
 refine WL.quiet (Qt.move rfl) rfl rfl ?_
 refine WL.quiet (Qt.move rfl) rfl rfl ?_
 refine WL.call (.take 0 rfl (.nil)) (Cl.func cb78 rfl) (Spec.borrow (e := kStr) (Γp := []) (U := []) (fun X hX => nomatch hX) (fun X hX => nomatch hX) (fun S w h => h) (containsW (nodesF cs) node _ _)) trivial rfl ?_
 rintro _ _ ⟨rfl, rfl⟩
 refine WL.quiet (Qt.not rfl) rfl rfl ?_
 refine WL.nil ?_
 refine WX.next ?_
 refine WC.cond rfl (fun hc_1 => ?_) (fun hc_1 => ?_)
 ·
  refine WC.seq ?_
  refine WC.region ?_
  refine WL.quiet (Qt.assign rfl) rfl rfl ?_
  refine WL.nil ?_
  refine WX.next ?_
  refine WC.ret ?_
  refine WX.pass_ret ?_
  have hnd : node ∉ nodesF cs := fun h => by simp [yes_of h] at hc_1
  refine WX.turn (.nil) (nil_row (e := kStr) (t := 9)) ?_
  rintro _ rfl
  refine WX.ret1 (.take 0 rfl (.take 4 rfl (.nil))) rfl rfl ?_
  exact ⟨_, _, [], rfl, rfl, fun x => ⟨(fun h => nomatch h), fun h => absurd h.2.1 hnd⟩⟩
 ·
  have hnd : node ∈ nodesF cs := (yes_iff _).1 (by simpa using hc_1)
  refine WC.skip ?_
  refine WX.next ?_
  refine WC.seq ?_
  refine WC.region ?_
  refine WL.loud (.nil) (Ld.makeMap (E := strKey) (V := Value.bool)) trivial rfl ?_
  rintro _ _ ⟨b_4, rfl, rfl⟩
  refine WL.loud (.nil) (Ld.alloc ti136 rfl) trivial rfl ?_
  rintro _ _ ⟨b_5, rfl, rfl⟩
  refine WL.loud (.take 0 rfl (.nil)) (Ld.store ti136 rfl rfl rfl rfl rfl rfl) trivial rfl ?_
  rintro _ _ rfl
  refine WL.nil ?_
  refine WX.next ?_
  refine WC.seq ?_
  refine WC.region ?_
  refine WL.loud (.nil) (Ld.alloc ti186 rfl) trivial rfl ?_
  rintro _ _ ⟨b_6, rfl, rfl⟩
  refine WL.nil ?_
  refine WX.next ?_
  refine WC.seq ?_
  refine WC.region ?_
  refine WL.quiet (Qt.makeFunc (vs := []) rfl rfl) rfl rfl ?_
  refine WL.loud (.take 0 rfl (.nil)) (Ld.store ti186 rfl rfl rfl rfl rfl rfl) trivial rfl ?_
  rintro _ _ rfl
  refine WL.nil ?_
  refine WX.next ?_
  refine WC.seq ?_
  refine WC.region ?_
  refine WL.quiet (Qt.loadB 0 rfl ta186 rfl rfl) rfl rfl ?_
  refine WL.quiet (Qt.move rfl) rfl rfl ?_
  refine WL.call (.take 1 rfl (.take 1 rfl (.take 2 rfl (.take 0 rfl (.take 3 rfl (.use 3 rfl hE (.nil))))))) (Cl.val cb122 rfl rfl) (visitW node [] (nodesF cs) Ed fid b_5 b_2 b_6 b_4 us F E hcall hE hs hU hnd) trivial rfl ?_
  rintro _ _ ⟨ks_1, rfl, rfl, hv_1⟩
  refine WL.nil ?_
  refine WX.next ?_
  refine WC.seq ?_
  refine WC.region ?_
  refine WL.quiet (Qt.move rfl) rfl rfl ?_
  refine WL.quiet (Qt.makeFunc (vs := []) rfl rfl) rfl rfl ?_
  refine WL.turn (.take 0 rfl (.take 0 rfl (.nil))) (conj_pack) ?_
  rintro _ rfl
  refine WL.call (.take 4 rfl (.take 0 rfl (.use 5 rfl hE (.nil)))) (Cl.func cb76 rfl) (deleteFuncW (nodesF cs) b_3 _ 123 cur_1 [.pointer (some ⟨b_5, 0, none⟩)] (conj [blk b_5 136 [.map (some b_4)], mp strKey Value.bool b_4 (trues ks_1)]) E (fun x => !yes (x ∈ ks_1)) cb123 hE (free_conj (fun X hX => by simp only [List.mem_cons, List.not_mem_nil, or_false] at hX; rcases hX with rfl | rfl <;> first | exact free_blk _ _ _ | exact free_mp _ _ _ _)) (fun x => Spec.packed (U := [blk b_5 136 [.map (some b_4)], mp strKey Value.bool b_4 (trues ks_1)]) (V := [E]) (Spec.less (.take 0 rfl (.take 0 rfl .nil)) (unseenW x ks_1 b_5 b_4)))) trivial rfl ?_
  rintro _ _ ⟨cur_2, rfl, rfl⟩
  refine WL.quiet (Qt.assign rfl) rfl rfl ?_
  refine WL.nil ?_
  refine WX.next ?_
  refine WC.ret ?_
  refine WX.turn (.take 0 rfl (.nil)) (row_close) ?_
  rintro _ rfl
  refine WX.ret1 (.take 0 rfl (.take 3 rfl (.nil))) rfl rfl ?_
  exact ⟨_, _, _, rfl, rfl, fun x => by simp [List.mem_filter, yes_iff, hv_1.all, hnd]⟩

end Go.Proofs.YtolggjmgfijjfaaGreatDoor.Sep

/- A walk, printed by gen.py out of hints. -/
namespace Go.Proofs.YtolggjmgfijjfaaGreatDoor.Sep
open Go
variable {μ : Prop}
theorem isFrmW (x : Contact) (node : ByteArray) (b : Nat)  : Spec μ Tryz.prog 124 #[.agg [.int .i64 x.kind, .int .i64 x.sp, .int .i64 x.n, .string x.frm, .string x.to].toArray, .pointer (some ⟨b, 0, none⟩)] [blk b 9 [.string node]] fun v Δ => v = .bool (decide (x.frm = node)) ∧ Δ = [blk b 9 [.string node]] := by
 refine Spec.of_body (n := 8) Tryz.func124 rfl rfl rfl fun w0 S0 O0 => ?_
 show WC _ _ _ _ _ _ [(0, .agg [.int .i64 x.kind, .int .i64 x.sp, .int .i64 x.n, .string x.frm, .string x.to].toArray), (1, .pointer (some ⟨b, 0, none⟩))] [blk b 9 [.string node]]
 refine WC.seq ?_
 refine WC.region ?_
 refine WL.loud (.nil) (Ld.box rfl rfl) trivial rfl ?_
 rintro _ _ ⟨b_1, rfl, rfl⟩
 refine WL.quiet (Qt.assign rfl) rfl rfl ?_
 refine WL.nil ?_
 refine WX.next ?_
 refine WC.seq ?_
 refine WC.region ?_
 refine WL.quiet (Qt.fieldAddrB tf56_2 rfl) rfl rfl ?_
 refine WL.quiet (Qt.loadB 0 rfl ta9 rfl rfl) rfl rfl ?_
 refine WL.quiet (Qt.loadB 1 rfl ta9 rfl rfl) rfl rfl ?_
 refine WL.quiet (Qt.seql rfl rfl) rfl rfl ?_
 refine WL.quiet (Qt.assign rfl) rfl rfl ?_
 refine WL.nil ?_
 refine WX.next ?_
 refine WC.ret ?_
 refine WX.ret1 (.take 1 rfl (.nil)) rfl rfl ?_
 exact ⟨rfl, rfl⟩

end Go.Proofs.YtolggjmgfijjfaaGreatDoor.Sep

/- A walk, printed by gen.py out of hints. -/
namespace Go.Proofs.YtolggjmgfijjfaaGreatDoor.Sep
open Go
variable {μ : Prop}
theorem outgoingW (cs : List Contact) (lb jp : ByteArray) (A B : Option Addr) (c nB d : Nat) (node : ByteArray) (hlen : cs.length ≤ 100000) : Spec μ Tryz.prog 101 #[.agg [.string lb, .slice A cs.length c, .slice B nB d, .string jp].toArray, .string node] [rd kContact A c cs] fun v Δ => ∃ A1 c1, v = .slice A1 (numI (fun c => decide (c.frm = node)) cs cs.length).length c1 ∧ Δ = [row kInt 3 A1 c1 (numI (fun c => decide (c.frm = node)) cs cs.length)] := by
 refine Spec.of_body (n := 8) Tryz.func101 rfl rfl rfl fun w0 S0 O0 => ?_
 show WC _ _ _ _ _ _ [(0, .agg [.string lb, .slice A cs.length c, .slice B nB d, .string jp].toArray), (1, .string node)] [rd kContact A c cs]
 refine WC.seq ?_
 refine WC.region ?_
 refine WL.loud (.nil) (Ld.box rfl rfl) trivial rfl ?_
 rintro _ _ ⟨b_1, rfl, rfl⟩
 refine WL.loud (.nil) (Ld.box rfl rfl) trivial rfl ?_
 rintro _ _ ⟨b_2, rfl, rfl⟩
 refine WL.quiet (Qt.assign rfl) rfl rfl ?_
 refine WL.nil ?_
 refine WX.next ?_
 refine WC.seq ?_
 refine WC.region ?_
 refine WL.quiet (Qt.loadBA 1 rfl ta25 ti25 rfl rfl) rfl rfl ?_
 refine WL.quiet (Qt.makeFunc (vs := []) rfl rfl) rfl rfl ?_
 refine WL.call (.u 2 rfl (.take 0 rfl (.nil))) (Cl.func cb97 rfl) (numbersW cs _ _ _ _ _ _ _ 124 [.pointer (some ⟨b_2, 0, none⟩)] (blk b_2 9 [.string node]) (fun c => decide (c.frm = node)) hlen cb124 (fun k hk => isFrmW cs[k] node b_2)) trivial rfl ?_
 rintro _ _ ⟨A_1, c_1, rfl, rfl⟩
 refine WL.quiet (Qt.assign rfl) rfl rfl ?_
 refine WL.nil ?_
 refine WX.next ?_
 refine WC.ret ?_
 refine WX.ret1 (.take 0 rfl (.nil)) rfl rfl ?_
 exact ⟨_, _, rfl, rfl⟩

end Go.Proofs.YtolggjmgfijjfaaGreatDoor.Sep

/- A walk, printed by gen.py out of hints. -/
namespace Go.Proofs.YtolggjmgfijjfaaGreatDoor.Sep
open Go
variable {μ : Prop}
theorem stepsOutW (n : ByteArray) (cs : List Contact) (lb jp : ByteArray) (A B : Option Addr) (c nB d b : Nat) (hlen : cs.length ≤ 100000) : Spec μ Tryz.prog 100 #[.string n, .pointer (some ⟨b, 0, none⟩)] [blk b 25 [.string lb, .slice A cs.length c, .slice B nB d, .string jp], rd kContact A c cs] fun v Δ => ∃ A1 c1 l, v = .slice A1 l.length c1 ∧ Δ = [row kStr 9 A1 c1 l, blk b 25 [.string lb, .slice A cs.length c, .slice B nB d, .string jp]] ∧ l.length ≤ 100000 ∧ ∀ m, m ∈ l ↔ ∃ x, x ∈ cs ∧ x.frm = n ∧ m = x.to := by
 refine Spec.of_body (n := 26) Tryz.func100 rfl rfl rfl fun w0 S0 O0 => ?_
 show WC _ _ _ _ _ _ [(0, .string n), (1, .pointer (some ⟨b, 0, none⟩))] [blk b 25 [.string lb, .slice A cs.length c, .slice B nB d, .string jp], rd kContact A c cs]
 refine WC.learn (Z := Unit) (Δ := fun _ => []) (φ := fun _ => cs.length ≤ c ∧ c ≤ 9223372036854775807) 1 rfl (fun S w h => ⟨(), rd_bounds h, nofacts⟩) ?_
 rintro _ ⟨hb_1, hb_2⟩
 refine WC.seq ?_
 refine WC.region ?_
 refine WL.quiet (Qt.assign rfl) rfl rfl ?_
 refine WL.nil ?_
 refine WX.next ?_
 refine WC.seq ?_
 refine WC.region ?_
 refine WL.quiet (Qt.assign rfl) rfl rfl ?_
 refine WL.nil ?_
 refine WX.next ?_
 refine WC.seq ?_
 refine WC.seq ?_
 refine WC.region ?_
 refine WL.quiet (Qt.loadBA 0 rfl ta25 ti25 rfl rfl) rfl rfl ?_
 refine WL.quiet (Qt.move rfl) rfl rfl ?_
 refine WL.call (.u 1 rfl (.nil)) (Cl.func cb101 rfl) (outgoingW cs _ _ _ _ _ _ _ n hlen) trivial rfl ?_
 rintro _ _ ⟨A_1, c_1, rfl, rfl⟩
 refine WL.turn (.take 0 rfl (.nil)) (freeze_row) ?_
 rintro _ rfl
 refine WL.quiet (Qt.lenS Tryz.underlying85 rfl) rfl rfl ?_
 refine WL.quiet (Qt.move rfl) rfl rfl ?_
 refine WL.nil ?_
 refine WX.next ?_
 refine WC.block ?_
 refine WC.turn (.nil) (nil_row (e := kStr) (t := 9)) ?_
 rintro _ rfl
 refine WC.loop (fun w0 : Nat × (Option Addr) × Nat × (List ByteArray) => [(1, .pointer (some ⟨b, 0, none⟩)), (3, .slice none 0 0), (4, .slice w0.2.1 w0.2.2.2.length w0.2.2.1), (9, .slice A_1 ((numI (fun c => decide (c.frm = n)) cs cs.length).length) c_1), (10, .int .i64 (((numI (fun c => decide (c.frm = n)) cs cs.length).length : Nat) : Int)), (11, .int .i64 ((w0.1 : Nat) : Int))]) (fun w0 => [row kStr 9 w0.2.1 w0.2.2.1 w0.2.2.2, rd kInt A_1 c_1 (numI (fun c => decide (c.frm = n)) cs cs.length), blk b 25 [.string lb, .slice A cs.length c, .slice B nB d, .string jp], rd kContact A c cs]) (fun w0 => w0.1 ≤ (numI (fun c => decide (c.frm = n)) cs cs.length).length ∧ w0.2.2.2 = nbrs (·.to) cs ((numI (fun c => decide (c.frm = n)) cs cs.length).take w0.1)) (fun w0 => (numI (fun c => decide (c.frm = n)) cs cs.length).length - w0.1) (0, none, 0, []) ⟨Nat.zero_le _, by simp [nbrs]⟩ ⟨rfl, rfl, rfl, rfl, rfl, rfl, trivial⟩ (.take 0 rfl (.u 0 rfl (.take 1 rfl (.u 1 rfl (.nil))))) ?_
 rintro ⟨k, A1, c1, l⟩ ⟨hk, hl⟩
 try dsimp only at hk hl
 have hll := nbrs_len (·.to) cs ((numI (fun c => decide (c.frm = n)) cs cs.length).take k)
 rw [← hl, List.length_take] at hll
 have hil := numI_len (fun c => decide (c.frm = n)) cs cs.length
 show WC _ _ _ _ _ _ [(1, .pointer (some ⟨b, 0, none⟩)), (3, .slice none 0 0), (4, .slice A1 l.length c1), (9, .slice A_1 ((numI (fun c => decide (c.frm = n)) cs cs.length).length) c_1), (10, .int .i64 (((numI (fun c => decide (c.frm = n)) cs cs.length).length : Nat) : Int)), (11, .int .i64 ((k : Nat) : Int))] [row kStr 9 A1 c1 l, rd kInt A_1 c_1 (numI (fun c => decide (c.frm = n)) cs cs.length), blk b 25 [.string lb, .slice A cs.length c, .slice B nB d, .string jp], rd kContact A c cs]
 refine WC.seq ?_
 refine WC.region ?_
 refine WL.quiet (Qt.lss rfl rfl) rfl rfl ?_
 refine WL.nil ?_
 refine WX.next ?_
 refine WC.seq ?_
 refine WC.condD rfl (fun hc_1 => ?_) (fun hc_1 => ?_)
 ·
  refine WC.skip ?_
  refine WX.next ?_
  refine WC.seq ?_
  refine WC.block ?_
  refine WC.seq ?_
  refine WC.region ?_
  have hj_1 : k < (numI (fun c => decide (c.frm = n)) cs cs.length).length := by omega
  refine WL.learn 1 rfl (rd_at k hj_1 (vInt _)) ?_
  rintro ⟨p_1, ⟨⟩⟩ hA_1
  refine WL.quiet (Qt.indexAddrE k hA_1 Tryz.underlying85 ti3 rfl rfl (by first | assumption | omega)) rfl rfl ?_
  refine WL.quiet (Qt.loadC (p := p_1.add (k * 1)) (o := 0) 0 rfl ta3 rfl rfl) rfl rfl ?_
  refine WL.quiet (Qt.assign rfl) rfl rfl ?_
  refine WL.nil ?_
  refine WX.next ?_
  obtain ⟨j, hj0, hje, hjp⟩ := numI_get (p := (fun c => decide (c.frm = n))) (cs := cs) (k := k) (by omega)
  rw [hje]
  refine WC.region ?_
  refine WL.quiet (Qt.move rfl) rfl rfl ?_
  refine WL.quiet (Qt.fieldAddrB tf25_1 rfl) rfl rfl ?_
  refine WL.quiet (Qt.loadB 3 rfl ta22 rfl rfl) rfl rfl ?_
  refine WL.quiet (Qt.move rfl) rfl rfl ?_
  have hj_2 : j < cs.length := by omega
  refine WL.learn 4 rfl (rd_at j hj_2 (vContact _)) ?_
  rintro ⟨p_2, ⟨⟩⟩ hA_2
  refine WL.quiet (Qt.indexAddrE j hA_2 Tryz.underlying22 ti56 rfl rfl (by first | assumption | omega)) rfl rfl ?_
  refine WL.quiet (Qt.fieldAddr tf56_3 rfl) rfl rfl ?_
  refine WL.quiet (Qt.loadC (p := p_2.add (j * 5)) (o := 4) 0 rfl ta9 rfl rfl) rfl rfl ?_
  refine WL.loud (.nil) (Ld.buildSlice (zs := [.string (⟨#[]⟩ : ByteArray)]) Tryz.underlying105 ti9 rfl rfl (by kernel_rfl) rfl rfl) trivial rfl ?_
  rintro _ _ ⟨b_1, rfl, rfl⟩
  refine WL.loud (.take 3 rfl (.take 0 rfl (.nil))) (Ld.append1 (e := kStr) (xs := l) (cs[j].to) Tryz.underlying105 ti9 rfl (by decide) (by decide) rfl rfl (by first | omega | (simp; omega)) (fun S w h => rfl)) trivial rfl ?_
  rintro _ _ ⟨A_2, c_2, rfl, rfl⟩
  refine WL.quiet (Qt.assign rfl) rfl rfl ?_
  refine WL.nil ?_
  refine WX.block_end ?_
  refine WX.next ?_
  refine WC.region ?_
  refine WL.quiet (Qt.add rfl rfl (by omega)) rfl rfl ?_
  refine WL.quiet (Qt.move rfl) rfl rfl ?_
  refine WL.nil ?_
  exact WX.back (k + 1, A_2, c_2, l ++ [cs[j].to]) ⟨by omega, by rw [nbrs_step _ cs _ k j (by omega) hj0 hje, ← hl]⟩ (by first | omega | (dsimp only; omega) | (simp; omega)) ⟨rfl, rfl, rfl, rfl, rfl, rfl, trivial⟩ (.take 0 rfl (.u 2 rfl (.take 3 rfl (.u 3 rfl (.nil)))))
 ·
  refine WC.exit ?_
  refine WX.pass_exit ?_
  refine WX.pass_exit ?_
  refine WX.block_exit ?_
  refine WX.next ?_
  refine WC.seq ?_
  refine WC.region ?_
  refine WL.quiet (Qt.move rfl) rfl rfl ?_
  refine WL.quiet (Qt.assign rfl) rfl rfl ?_
  refine WL.nil ?_
  refine WX.next ?_
  refine WC.ret ?_
  have hend : l = nbrs (·.to) cs (numI (fun c => decide (c.frm = n)) cs cs.length) := by rw [hl, List.take_of_length_le (by omega)]
  refine WX.ret1 (.take 0 rfl (.take 1 rfl (.nil))) rfl rfl ?_
  exact ⟨_, _, _, rfl, rfl, by omega, fun m => by rw [hend, nbrs_mem]; simp⟩

end Go.Proofs.YtolggjmgfijjfaaGreatDoor.Sep

/- A walk, printed by gen.py out of hints. -/
namespace Go.Proofs.YtolggjmgfijjfaaGreatDoor.Sep
open Go
variable {μ : Prop}
theorem reachableW (cs : List Contact) (lb jp : ByteArray) (A B : Option Addr) (c nB d : Nat) (node : ByteArray) (hlen : cs.length ≤ 100000) : Spec μ Tryz.prog 74 #[.agg [.string lb, .slice A cs.length c, .slice B nB d, .string jp].toArray, .string node] [rd kContact A c cs] fun v Δ => ∃ A1 c1 l, v = .slice A1 l.length c1 ∧ Δ = [row kStr 9 A1 c1 l] ∧ ∀ x, x ∈ l ↔ x ∈ nodesF cs ∧ node ∈ nodesF cs ∧ RT (Eout cs) node x := by
 refine Spec.of_body (n := 9) Tryz.func74 rfl rfl rfl fun w0 S0 O0 => ?_
 show WC _ _ _ _ _ _ [(0, .agg [.string lb, .slice A cs.length c, .slice B nB d, .string jp].toArray), (1, .string node)] [rd kContact A c cs]
 refine WC.seq ?_
 refine WC.region ?_
 refine WL.loud (.nil) (Ld.box rfl rfl) trivial rfl ?_
 rintro _ _ ⟨b_1, rfl, rfl⟩
 refine WL.quiet (Qt.assign rfl) rfl rfl ?_
 refine WL.nil ?_
 refine WX.next ?_
 refine WC.seq ?_
 refine WC.region ?_
 refine WL.quiet (Qt.loadBA 0 rfl ta25 ti25 rfl rfl) rfl rfl ?_
 refine WL.quiet (Qt.move rfl) rfl rfl ?_
 refine WL.quiet (Qt.makeFunc (vs := []) rfl rfl) rfl rfl ?_
 refine WL.call (.u 1 rfl (.take 0 rfl (.u 0 rfl (.nil)))) (Cl.func cb99 rfl) (gatherW cs _ _ _ _ _ _ _ 100 node [.pointer (some ⟨b_1, 0, none⟩)] (blk b_1 25 [.string lb, .slice A cs.length c, .slice B nB d, .string jp]) (rd kContact A c cs) (Eout cs) hlen cb100 (fun _ h => h) (fun n => stepsOutW n cs _ _ _ _ _ _ _ b_1 hlen) Eout_nodes) trivial rfl ?_
 rintro _ _ ⟨A_1, c_1, l_1, rfl, rfl, hm_1⟩
 refine WL.quiet (Qt.assign rfl) rfl rfl ?_
 refine WL.nil ?_
 refine WX.next ?_
 refine WC.ret ?_
 refine WX.ret1 (.take 0 rfl (.nil)) rfl rfl ?_
 exact ⟨_, _, _, rfl, rfl, hm_1⟩

end Go.Proofs.YtolggjmgfijjfaaGreatDoor.Sep

/- A walk, printed by gen.py out of hints. -/
namespace Go.Proofs.YtolggjmgfijjfaaGreatDoor.Sep
open Go
variable {μ : Prop}
theorem stepsInW (n : ByteArray) (cs : List Contact) (lb jp : ByteArray) (A B : Option Addr) (c nB d b : Nat) (hlen : cs.length ≤ 100000) : Spec μ Tryz.prog 102 #[.string n, .pointer (some ⟨b, 0, none⟩)] [blk b 25 [.string lb, .slice A cs.length c, .slice B nB d, .string jp], rd kContact A c cs] fun v Δ => ∃ A1 c1 l, v = .slice A1 l.length c1 ∧ Δ = [row kStr 9 A1 c1 l, blk b 25 [.string lb, .slice A cs.length c, .slice B nB d, .string jp]] ∧ l.length ≤ 100000 ∧ ∀ m, m ∈ l ↔ ∃ x, x ∈ cs ∧ x.to = n ∧ m = x.frm := by
 refine Spec.of_body (n := 26) Tryz.func102 rfl rfl rfl fun w0 S0 O0 => ?_
 show WC _ _ _ _ _ _ [(0, .string n), (1, .pointer (some ⟨b, 0, none⟩))] [blk b 25 [.string lb, .slice A cs.length c, .slice B nB d, .string jp], rd kContact A c cs]
 refine WC.learn (Z := Unit) (Δ := fun _ => []) (φ := fun _ => cs.length ≤ c ∧ c ≤ 9223372036854775807) 1 rfl (fun S w h => ⟨(), rd_bounds h, nofacts⟩) ?_
 rintro _ ⟨hb_1, hb_2⟩
 refine WC.seq ?_
 refine WC.region ?_
 refine WL.quiet (Qt.assign rfl) rfl rfl ?_
 refine WL.nil ?_
 refine WX.next ?_
 refine WC.seq ?_
 refine WC.region ?_
 refine WL.quiet (Qt.assign rfl) rfl rfl ?_
 refine WL.nil ?_
 refine WX.next ?_
 refine WC.seq ?_
 refine WC.seq ?_
 refine WC.region ?_
 refine WL.quiet (Qt.loadBA 0 rfl ta25 ti25 rfl rfl) rfl rfl ?_
 refine WL.quiet (Qt.move rfl) rfl rfl ?_
 refine WL.call (.u 1 rfl (.nil)) (Cl.func cb71 rfl) (incomingW cs _ _ _ _ _ _ _ n hlen) trivial rfl ?_
 rintro _ _ ⟨A_1, c_1, rfl, rfl⟩
 refine WL.turn (.take 0 rfl (.nil)) (freeze_row) ?_
 rintro _ rfl
 refine WL.quiet (Qt.lenS Tryz.underlying85 rfl) rfl rfl ?_
 refine WL.quiet (Qt.move rfl) rfl rfl ?_
 refine WL.nil ?_
 refine WX.next ?_
 refine WC.block ?_
 refine WC.turn (.nil) (nil_row (e := kStr) (t := 9)) ?_
 rintro _ rfl
 refine WC.loop (fun w0 : Nat × (Option Addr) × Nat × (List ByteArray) => [(1, .pointer (some ⟨b, 0, none⟩)), (3, .slice none 0 0), (4, .slice w0.2.1 w0.2.2.2.length w0.2.2.1), (9, .slice A_1 ((numI (fun c => decide (c.to = n)) cs cs.length).length) c_1), (10, .int .i64 (((numI (fun c => decide (c.to = n)) cs cs.length).length : Nat) : Int)), (11, .int .i64 ((w0.1 : Nat) : Int))]) (fun w0 => [row kStr 9 w0.2.1 w0.2.2.1 w0.2.2.2, rd kInt A_1 c_1 (numI (fun c => decide (c.to = n)) cs cs.length), blk b 25 [.string lb, .slice A cs.length c, .slice B nB d, .string jp], rd kContact A c cs]) (fun w0 => w0.1 ≤ (numI (fun c => decide (c.to = n)) cs cs.length).length ∧ w0.2.2.2 = nbrs (·.frm) cs ((numI (fun c => decide (c.to = n)) cs cs.length).take w0.1)) (fun w0 => (numI (fun c => decide (c.to = n)) cs cs.length).length - w0.1) (0, none, 0, []) ⟨Nat.zero_le _, by simp [nbrs]⟩ ⟨rfl, rfl, rfl, rfl, rfl, rfl, trivial⟩ (.take 0 rfl (.u 0 rfl (.take 1 rfl (.u 1 rfl (.nil))))) ?_
 rintro ⟨k, A1, c1, l⟩ ⟨hk, hl⟩
 try dsimp only at hk hl
 have hll := nbrs_len (·.frm) cs ((numI (fun c => decide (c.to = n)) cs cs.length).take k)
 rw [← hl, List.length_take] at hll
 have hil := numI_len (fun c => decide (c.to = n)) cs cs.length
 show WC _ _ _ _ _ _ [(1, .pointer (some ⟨b, 0, none⟩)), (3, .slice none 0 0), (4, .slice A1 l.length c1), (9, .slice A_1 ((numI (fun c => decide (c.to = n)) cs cs.length).length) c_1), (10, .int .i64 (((numI (fun c => decide (c.to = n)) cs cs.length).length : Nat) : Int)), (11, .int .i64 ((k : Nat) : Int))] [row kStr 9 A1 c1 l, rd kInt A_1 c_1 (numI (fun c => decide (c.to = n)) cs cs.length), blk b 25 [.string lb, .slice A cs.length c, .slice B nB d, .string jp], rd kContact A c cs]
 refine WC.seq ?_
 refine WC.region ?_
 refine WL.quiet (Qt.lss rfl rfl) rfl rfl ?_
 refine WL.nil ?_
 refine WX.next ?_
 refine WC.seq ?_
 refine WC.condD rfl (fun hc_1 => ?_) (fun hc_1 => ?_)
 ·
  refine WC.skip ?_
  refine WX.next ?_
  refine WC.seq ?_
  refine WC.block ?_
  refine WC.seq ?_
  refine WC.region ?_
  have hj_1 : k < (numI (fun c => decide (c.to = n)) cs cs.length).length := by omega
  refine WL.learn 1 rfl (rd_at k hj_1 (vInt _)) ?_
  rintro ⟨p_1, ⟨⟩⟩ hA_1
  refine WL.quiet (Qt.indexAddrE k hA_1 Tryz.underlying85 ti3 rfl rfl (by first | assumption | omega)) rfl rfl ?_
  refine WL.quiet (Qt.loadC (p := p_1.add (k * 1)) (o := 0) 0 rfl ta3 rfl rfl) rfl rfl ?_
  refine WL.quiet (Qt.assign rfl) rfl rfl ?_
  refine WL.nil ?_
  refine WX.next ?_
  obtain ⟨j, hj0, hje, hjp⟩ := numI_get (p := (fun c => decide (c.to = n))) (cs := cs) (k := k) (by omega)
  rw [hje]
  refine WC.region ?_
  refine WL.quiet (Qt.move rfl) rfl rfl ?_
  refine WL.quiet (Qt.fieldAddrB tf25_1 rfl) rfl rfl ?_
  refine WL.quiet (Qt.loadB 3 rfl ta22 rfl rfl) rfl rfl ?_
  refine WL.quiet (Qt.move rfl) rfl rfl ?_
  have hj_2 : j < cs.length := by omega
  refine WL.learn 4 rfl (rd_at j hj_2 (vContact _)) ?_
  rintro ⟨p_2, ⟨⟩⟩ hA_2
  refine WL.quiet (Qt.indexAddrE j hA_2 Tryz.underlying22 ti56 rfl rfl (by first | assumption | omega)) rfl rfl ?_
  refine WL.quiet (Qt.fieldAddr tf56_2 rfl) rfl rfl ?_
  refine WL.quiet (Qt.loadC (p := p_2.add (j * 5)) (o := 3) 0 rfl ta9 rfl rfl) rfl rfl ?_
  refine WL.loud (.nil) (Ld.buildSlice (zs := [.string (⟨#[]⟩ : ByteArray)]) Tryz.underlying105 ti9 rfl rfl (by kernel_rfl) rfl rfl) trivial rfl ?_
  rintro _ _ ⟨b_1, rfl, rfl⟩
  refine WL.loud (.take 3 rfl (.take 0 rfl (.nil))) (Ld.append1 (e := kStr) (xs := l) (cs[j].frm) Tryz.underlying105 ti9 rfl (by decide) (by decide) rfl rfl (by first | omega | (simp; omega)) (fun S w h => rfl)) trivial rfl ?_
  rintro _ _ ⟨A_2, c_2, rfl, rfl⟩
  refine WL.quiet (Qt.assign rfl) rfl rfl ?_
  refine WL.nil ?_
  refine WX.block_end ?_
  refine WX.next ?_
  refine WC.region ?_
  refine WL.quiet (Qt.add rfl rfl (by omega)) rfl rfl ?_
  refine WL.quiet (Qt.move rfl) rfl rfl ?_
  refine WL.nil ?_
  exact WX.back (k + 1, A_2, c_2, l ++ [cs[j].frm]) ⟨by omega, by rw [nbrs_step _ cs _ k j (by omega) hj0 hje, ← hl]⟩ (by first | omega | (dsimp only; omega) | (simp; omega)) ⟨rfl, rfl, rfl, rfl, rfl, rfl, trivial⟩ (.take 0 rfl (.u 2 rfl (.take 3 rfl (.u 3 rfl (.nil)))))
 ·
  refine WC.exit ?_
  refine WX.pass_exit ?_
  refine WX.pass_exit ?_
  refine WX.block_exit ?_
  refine WX.next ?_
  refine WC.seq ?_
  refine WC.region ?_
  refine WL.quiet (Qt.move rfl) rfl rfl ?_
  refine WL.quiet (Qt.assign rfl) rfl rfl ?_
  refine WL.nil ?_
  refine WX.next ?_
  refine WC.ret ?_
  have hend : l = nbrs (·.frm) cs (numI (fun c => decide (c.to = n)) cs cs.length) := by rw [hl, List.take_of_length_le (by omega)]
  refine WX.ret1 (.take 0 rfl (.take 1 rfl (.nil))) rfl rfl ?_
  exact ⟨_, _, _, rfl, rfl, by omega, fun m => by rw [hend, nbrs_mem]; simp⟩

end Go.Proofs.YtolggjmgfijjfaaGreatDoor.Sep

/- A walk, printed by gen.py out of hints. -/
namespace Go.Proofs.YtolggjmgfijjfaaGreatDoor.Sep
open Go
variable {μ : Prop}
theorem ancestorsW (cs : List Contact) (lb jp : ByteArray) (A B : Option Addr) (c nB d : Nat) (node : ByteArray) (hlen : cs.length ≤ 100000) : Spec μ Tryz.prog 75 #[.agg [.string lb, .slice A cs.length c, .slice B nB d, .string jp].toArray, .string node] [rd kContact A c cs] fun v Δ => ∃ A1 c1 l, v = .slice A1 l.length c1 ∧ Δ = [row kStr 9 A1 c1 l] ∧ ∀ x, x ∈ l ↔ x ∈ nodesF cs ∧ node ∈ nodesF cs ∧ RT (Ein cs) node x := by
 refine Spec.of_body (n := 9) Tryz.func75 rfl rfl rfl fun w0 S0 O0 => ?_
 show WC _ _ _ _ _ _ [(0, .agg [.string lb, .slice A cs.length c, .slice B nB d, .string jp].toArray), (1, .string node)] [rd kContact A c cs]
 refine WC.seq ?_
 refine WC.region ?_
 refine WL.loud (.nil) (Ld.box rfl rfl) trivial rfl ?_
 rintro _ _ ⟨b_1, rfl, rfl⟩
 refine WL.quiet (Qt.assign rfl) rfl rfl ?_
 refine WL.nil ?_
 refine WX.next ?_
 refine WC.seq ?_
 refine WC.region ?_
 refine WL.quiet (Qt.loadBA 0 rfl ta25 ti25 rfl rfl) rfl rfl ?_
 refine WL.quiet (Qt.move rfl) rfl rfl ?_
 refine WL.quiet (Qt.makeFunc (vs := []) rfl rfl) rfl rfl ?_
 refine WL.call (.u 1 rfl (.take 0 rfl (.u 0 rfl (.nil)))) (Cl.func cb99 rfl) (gatherW cs _ _ _ _ _ _ _ 102 node [.pointer (some ⟨b_1, 0, none⟩)] (blk b_1 25 [.string lb, .slice A cs.length c, .slice B nB d, .string jp]) (rd kContact A c cs) (Ein cs) hlen cb102 (fun _ h => h) (fun n => stepsInW n cs _ _ _ _ _ _ _ b_1 hlen) Ein_nodes) trivial rfl ?_
 rintro _ _ ⟨A_1, c_1, l_1, rfl, rfl, hm_1⟩
 refine WL.quiet (Qt.assign rfl) rfl rfl ?_
 refine WL.nil ?_
 refine WX.next ?_
 refine WC.ret ?_
 refine WX.ret1 (.take 0 rfl (.nil)) rfl rfl ?_
 exact ⟨_, _, _, rfl, rfl, hm_1⟩

end Go.Proofs.YtolggjmgfijjfaaGreatDoor.Sep

/- A walk, printed by gen.py out of hints. -/
namespace Go.Proofs.YtolggjmgfijjfaaGreatDoor.Sep
open Go
variable {μ : Prop}
theorem inBothW (n : ByteArray) (la l2 : List ByteArray) (A B : Option Addr) (c d b3 b4 : Nat)  : Spec μ Tryz.prog 77 #[.string n, .pointer (some ⟨b3, 0, none⟩), .pointer (some ⟨b4, 0, none⟩)] [blk b3 105 [.slice A la.length c], blk b4 105 [.slice B l2.length d], rd kStr A c la, rd kStr B d l2] fun v Δ => v = .bool (yes (n ∈ la ∧ n ∈ l2)) ∧ Δ = [blk b3 105 [.slice A la.length c], blk b4 105 [.slice B l2.length d]] := by
 refine Spec.of_body (n := 13) Tryz.func77 rfl rfl rfl fun w0 S0 O0 => ?_
 show WC _ _ _ _ _ _ [(0, .string n), (1, .pointer (some ⟨b3, 0, none⟩)), (2, .pointer (some ⟨b4, 0, none⟩))] [blk b3 105 [.slice A la.length c], blk b4 105 [.slice B l2.length d], rd kStr A c la, rd kStr B d l2]
 refine WC.seq ?_
 refine WC.region ?_
 refine WL.quiet (Qt.assign rfl) rfl rfl ?_
 refine WL.nil ?_
 refine WX.next ?_
 refine WC.cut (fun _ : Unit => [(4, .bool (decide ((yes (n ∈ la) = true) ∧ (yes (n ∈ l2) = true))))]) (fun _ => [blk b3 105 [.slice A la.length c], blk b4 105 [.slice B l2.length d], rd kStr A c la, rd kStr B d l2]) (fun _ => True) ?_ ?_
 ·
  refine WC.region ?_
  refine WL.quiet (Qt.loadB 0 rfl ta105 rfl rfl) rfl rfl ?_
  refine WL.quiet (Qt.move rfl) rfl rfl ?_
  refine WL.call (.u 2 rfl (.nil)) (Cl.func cb78 rfl) (containsW la n _ _) trivial rfl ?_
  rintro _ _ ⟨rfl, rfl⟩
  refine WL.quiet (Qt.move rfl) rfl rfl ?_
  refine WL.splitB 8 rfl rfl (fun hg_1 => ?_) (fun hg_1 => ?_)
  ·
   refine WL.quietG 3 true rfl 8 rfl rfl (Qt.loadB 1 rfl ta105 rfl rfl) rfl ?_
   refine WL.quietG 3 true rfl 8 rfl rfl (Qt.move rfl) rfl ?_
   refine WL.call (.u 3 rfl (.nil)) (Cl.func cb78 rfl) (containsW l2 n _ _) ⟨8, rfl, rfl⟩ rfl ?_
   rintro _ _ ⟨rfl, rfl⟩
   refine WL.quiet (Qt.pickT rfl rfl) rfl rfl ?_
   refine WL.quiet (Qt.assign rfl) rfl rfl ?_
   refine WL.nil ?_
   exact WX.cut () trivial ⟨(by rw [show decide ((yes (n ∈ la) = true) ∧ (yes (n ∈ l2) = true)) = yes (n ∈ l2) from by first | (simp [hg_1]; done) | exact decide_eq_decide.2 (by omega) | exact decide_eq_true (by omega) | exact decide_eq_false (by omega) | (simp [hg_1] <;> omega)]; rfl), trivial⟩ (.take 0 rfl (.take 0 rfl (.u 0 rfl (.u 1 rfl (.nil)))))
  ·
   refine WL.skipG 3 true false rfl 8 rfl rfl rfl rfl ?_
   refine WL.skipG 3 true false rfl 8 rfl rfl rfl rfl ?_
   refine WL.skipG 3 true false rfl 8 rfl rfl rfl rfl ?_
   refine WL.quiet (Qt.pickF rfl rfl) rfl rfl ?_
   refine WL.quiet (Qt.assign rfl) rfl rfl ?_
   refine WL.nil ?_
   exact WX.cut () trivial ⟨(by rw [show decide ((yes (n ∈ la) = true) ∧ (yes (n ∈ l2) = true)) = false from by first | (simp [hg_1]; done) | exact decide_eq_decide.2 (by omega) | exact decide_eq_true (by omega) | exact decide_eq_false (by omega) | (simp [hg_1] <;> omega)]; rfl), trivial⟩ (.take 0 rfl (.take 0 rfl (.u 0 rfl (.u 1 rfl (.nil)))))
 ·
  intro _ _
  show WC _ _ _ _ _ _ [(4, .bool (decide ((yes (n ∈ la) = true) ∧ (yes (n ∈ l2) = true))))] [blk b3 105 [.slice A la.length c], blk b4 105 [.slice B l2.length d], rd kStr A c la, rd kStr B d l2]
  refine WC.ret ?_
  refine WX.ret1 (.take 0 rfl (.take 0 rfl (.nil))) rfl rfl ?_
  exact ⟨by rw [← yes_and], rfl⟩

end Go.Proofs.YtolggjmgfijjfaaGreatDoor.Sep

/- A walk, printed by gen.py out of hints. -/
namespace Go.Proofs.YtolggjmgfijjfaaGreatDoor.Sep
open Go
variable {μ : Prop}
theorem deadNodesW (cs : List Contact) (lb jp : ByteArray) (A B : Option Addr) (c nB d : Nat) (hlen : cs.length ≤ 100000) : Spec μ Tryz.prog 40 #[.agg [.string lb, .slice A cs.length c, .slice B nB d, .string jp].toArray] [rd kContact A c cs] fun v Δ => ∃ A1 c1 n, v = .slice A1 n c1 ∧ Δ = [] ∧ ((∀ x, x ∈ nodesF cs → RT (Eout cs) sL x ∧ RT (Ein cs) sR x) ↔ n = 0) := by
 refine Spec.of_body (n := 13) Tryz.func40 rfl rfl rfl fun w0 S0 O0 => ?_
 show WC _ _ _ _ _ _ [(0, .agg [.string lb, .slice A cs.length c, .slice B nB d, .string jp].toArray)] [rd kContact A c cs]
 refine WC.seq ?_
 refine WC.region ?_
 refine WL.loud (.nil) (Ld.box rfl rfl) trivial rfl ?_
 rintro _ _ ⟨b_1, rfl, rfl⟩
 refine WL.quiet (Qt.assign rfl) rfl rfl ?_
 refine WL.nil ?_
 refine WX.next ?_
 refine WC.cut (fun w0 : Nat × Nat × (Option Addr) × (List ByteArray) × Nat × (Option Addr) × (List ByteArray) × Nat => [(1, .pointer (some ⟨b_1, 0, none⟩)), (2, .slice none 0 0), (3, .pointer (some ⟨w0.1, 0, none⟩)), (4, .pointer (some ⟨w0.2.1, 0, none⟩))]) (fun w0 => [blk w0.2.1 105 [.slice w0.2.2.1 w0.2.2.2.1.length w0.2.2.2.2.1], blk w0.1 105 [.slice w0.2.2.2.2.2.1 w0.2.2.2.2.2.2.1.length w0.2.2.2.2.2.2.2], row kStr 9 w0.2.2.1 w0.2.2.2.2.1 w0.2.2.2.1, row kStr 9 w0.2.2.2.2.2.1 w0.2.2.2.2.2.2.2 w0.2.2.2.2.2.2.1, blk b_1 25 [.string lb, .slice A cs.length c, .slice B nB d, .string jp], rd kContact A c cs]) (fun w0 => (∀ x, x ∈ w0.2.2.2.2.2.2.1 ↔ x ∈ nodesF cs ∧ sL ∈ nodesF cs ∧ RT (Eout cs) sL x) ∧ ∀ x, x ∈ w0.2.2.2.1 ↔ x ∈ nodesF cs ∧ sR ∈ nodesF cs ∧ RT (Ein cs) sR x) ?_ ?_
 ·
  refine WC.calm (Calm.then (calm_FQ _ _)) fun hC => ?_
  refine WC.draw (Γq := [blk b_1 25 [.string lb, .slice A cs.length c, .slice B nB d, .string jp], rd kContact A c cs]) [0, 1, 2, 3, 4, 5, 6] mixed ?_
  refine WA.named (.take 0 rfl (.u 0 rfl (.nil))) fun sl_1 => ?_
  refine WA.tk 0 (by kernel_rfl) rfl hC (Qt.loadBA 0 rfl ta25 ti25 rfl rfl) trivial rfl sl_1 ?_
  refine WA.tk 2 (by kernel_rfl) rfl hC (Qt.loadBA 0 rfl ta25 ti25 rfl rfl) trivial rfl sl_1 ?_
  refine WA.all [1, 4, 5] (by kernel_rfl) (by simp) ?_
  intro i0 hi0
  simp only [List.mem_cons, List.not_mem_nil, or_false] at hi0
  rcases hi0 with rfl | rfl | rfl
  ·
   refine WO.call rfl (.u 1 rfl (.nil)) (Cl.func cb74 rfl) (reachableW cs _ _ _ _ _ _ _ (⟨#[76]⟩ : ByteArray) hlen) trivial rfl (by rintro _ _ ⟨A_1, c_1, l_1, rfl, rfl, hm_1⟩; exact ⟨_, (.take 1 rfl (.u 1 rfl (.nil)))⟩) ?_
   rintro _ _ ⟨A_1, c_1, l_1, rfl, rfl, hm_1⟩
   refine WA.all [3, 4, 5] (by kernel_rfl) (by simp) ?_
   intro i0 hi0
   simp only [List.mem_cons, List.not_mem_nil, or_false] at hi0
   rcases hi0 with rfl | rfl | rfl
   ·
    refine WO.call rfl (.u 2 rfl (.nil)) (Cl.func cb75 rfl) (ancestorsW cs _ _ _ _ _ _ _ (⟨#[82]⟩ : ByteArray) hlen) trivial rfl (by rintro _ _ ⟨A_2, c_2, l_2, rfl, rfl, hm_2⟩; exact ⟨_, (.take 2 rfl (.u 2 rfl (.nil)))⟩) ?_
    rintro _ _ ⟨A_2, c_2, l_2, rfl, rfl, hm_2⟩
    refine WA.two 4 5 (by kernel_rfl) ?_ ?_
    ·
     refine WO.loud rfl (.nil) (Ld.alloc ti105 rfl) trivial rfl (by rintro _ _ ⟨b_2, rfl, rfl⟩; exact ⟨_, (.take 3 rfl (.u 3 rfl (.nil)))⟩) ?_
     rintro _ _ ⟨b_2, rfl, rfl⟩
     refine WA.one 5 (by kernel_rfl) ?_
     refine WO.loud rfl (.nil) (Ld.alloc ti105 rfl) trivial rfl (by rintro _ _ ⟨b_3, rfl, rfl⟩; exact ⟨_, (.take 4 rfl (.u 4 rfl (.nil)))⟩) ?_
     rintro _ _ ⟨b_3, rfl, rfl⟩
     refine WA.one 6 (by kernel_rfl) ?_
     refine WO.loud rfl (.take 1 rfl (.nil)) (Ld.store ti105 rfl rfl rfl rfl rfl rfl) trivial rfl (by rintro _ _ rfl; exact ⟨_, (.take 4 rfl (.u 4 rfl (.nil)))⟩) ?_
     rintro _ _ rfl
     refine WA.phase (K' := [0, 1, 2, 3, 4, 5, 6, 7]) (Γq' := [blk b_2 105 [.slice A_1 l_1.length c_1], row kStr 9 A_2 c_2 l_2, row kStr 9 A_1 c_1 l_1, blk b_1 25 [.string lb, .slice A cs.length c, .slice B nB d, .string jp], rd kContact A c cs]) (by kernel_rfl) ?_
     refine WA.one 7 (by kernel_rfl) ?_
     refine WO.loud rfl (.take 1 rfl (.nil)) (Ld.store ti105 rfl rfl rfl rfl rfl rfl) trivial rfl (by rintro _ _ rfl; exact ⟨_, (.take 1 rfl (.take 1 rfl (.take 1 rfl (.take 1 rfl (.u 1 rfl (.nil))))))⟩) ?_
     rintro _ _ rfl
     refine WA.done (by kernel_rfl) ?_
     exact WX.cut (b_2, b_3, A_2, l_2, c_2, A_1, l_1, c_1) ⟨hm_1, hm_2⟩ ⟨rfl, rfl, rfl, rfl, trivial⟩ (.take 0 rfl (.take 0 rfl (.take 0 rfl (.take 0 rfl (.take 0 rfl (.u 0 rfl (.nil)))))))
    ·
     refine WO.loud rfl (.nil) (Ld.alloc ti105 rfl) trivial rfl (by rintro _ _ ⟨b_4, rfl, rfl⟩; exact ⟨_, (.take 3 rfl (.u 3 rfl (.nil)))⟩) ?_
     rintro _ _ ⟨b_4, rfl, rfl⟩
     refine WA.one 4 (by kernel_rfl) ?_
     refine WO.loud rfl (.nil) (Ld.alloc ti105 rfl) trivial rfl (by rintro _ _ ⟨b_5, rfl, rfl⟩; exact ⟨_, (.take 4 rfl (.u 4 rfl (.nil)))⟩) ?_
     rintro _ _ ⟨b_5, rfl, rfl⟩
     refine WA.one 6 (by kernel_rfl) ?_
     refine WO.loud rfl (.take 0 rfl (.nil)) (Ld.store ti105 rfl rfl rfl rfl rfl rfl) trivial rfl (by rintro _ _ rfl; exact ⟨_, (.take 4 rfl (.u 4 rfl (.nil)))⟩) ?_
     rintro _ _ rfl
     refine WA.phase (K' := [0, 1, 2, 3, 4, 5, 6, 7]) (Γq' := [blk b_5 105 [.slice A_1 l_1.length c_1], row kStr 9 A_2 c_2 l_2, row kStr 9 A_1 c_1 l_1, blk b_1 25 [.string lb, .slice A cs.length c, .slice B nB d, .string jp], rd kContact A c cs]) (by kernel_rfl) ?_
     refine WA.one 7 (by kernel_rfl) ?_
     refine WO.loud rfl (.take 1 rfl (.nil)) (Ld.store ti105 rfl rfl rfl rfl rfl rfl) trivial rfl (by rintro _ _ rfl; exact ⟨_, (.take 1 rfl (.take 1 rfl (.take 1 rfl (.take 1 rfl (.u 1 rfl (.nil))))))⟩) ?_
     rintro _ _ rfl
     refine WA.done (by kernel_rfl) ?_
     exact WX.cut (b_5, b_4, A_2, l_2, c_2, A_1, l_1, c_1) ⟨hm_1, hm_2⟩ ⟨rfl, rfl, rfl, rfl, trivial⟩ (.take 0 rfl (.take 0 rfl (.take 0 rfl (.take 0 rfl (.take 0 rfl (.u 0 rfl (.nil)))))))
   ·
    refine WO.loud rfl (.nil) (Ld.alloc ti105 rfl) trivial rfl (by rintro _ _ ⟨b_6, rfl, rfl⟩; exact ⟨_, (.take 2 rfl (.u 2 rfl (.nil)))⟩) ?_
    rintro _ _ ⟨b_6, rfl, rfl⟩
    refine WA.two 3 5 (by kernel_rfl) ?_ ?_
    ·
     refine WO.call rfl (.u 3 rfl (.nil)) (Cl.func cb75 rfl) (ancestorsW cs _ _ _ _ _ _ _ (⟨#[82]⟩ : ByteArray) hlen) trivial rfl (by rintro _ _ ⟨A_3, c_3, l_3, rfl, rfl, hm_3⟩; exact ⟨_, (.take 3 rfl (.u 3 rfl (.nil)))⟩) ?_
     rintro _ _ ⟨A_3, c_3, l_3, rfl, rfl, hm_3⟩
     refine WA.one 5 (by kernel_rfl) ?_
     refine WO.loud rfl (.nil) (Ld.alloc ti105 rfl) trivial rfl (by rintro _ _ ⟨b_7, rfl, rfl⟩; exact ⟨_, (.take 4 rfl (.u 4 rfl (.nil)))⟩) ?_
     rintro _ _ ⟨b_7, rfl, rfl⟩
     refine WA.one 6 (by kernel_rfl) ?_
     refine WO.loud rfl (.take 2 rfl (.nil)) (Ld.store ti105 rfl rfl rfl rfl rfl rfl) trivial rfl (by rintro _ _ rfl; exact ⟨_, (.take 4 rfl (.u 4 rfl (.nil)))⟩) ?_
     rintro _ _ rfl
     refine WA.phase (K' := [0, 1, 2, 3, 4, 5, 6, 7]) (Γq' := [blk b_6 105 [.slice A_1 l_1.length c_1], row kStr 9 A_3 c_3 l_3, row kStr 9 A_1 c_1 l_1, blk b_1 25 [.string lb, .slice A cs.length c, .slice B nB d, .string jp], rd kContact A c cs]) (by kernel_rfl) ?_
     refine WA.one 7 (by kernel_rfl) ?_
     refine WO.loud rfl (.take 1 rfl (.nil)) (Ld.store ti105 rfl rfl rfl rfl rfl rfl) trivial rfl (by rintro _ _ rfl; exact ⟨_, (.take 1 rfl (.take 1 rfl (.take 1 rfl (.take 1 rfl (.u 1 rfl (.nil))))))⟩) ?_
     rintro _ _ rfl
     refine WA.done (by kernel_rfl) ?_
     exact WX.cut (b_6, b_7, A_3, l_3, c_3, A_1, l_1, c_1) ⟨hm_1, hm_3⟩ ⟨rfl, rfl, rfl, rfl, trivial⟩ (.take 0 rfl (.take 0 rfl (.take 0 rfl (.take 0 rfl (.take 0 rfl (.u 0 rfl (.nil)))))))
    ·
     refine WO.loud rfl (.nil) (Ld.alloc ti105 rfl) trivial rfl (by rintro _ _ ⟨b_8, rfl, rfl⟩; exact ⟨_, (.take 3 rfl (.u 3 rfl (.nil)))⟩) ?_
     rintro _ _ ⟨b_8, rfl, rfl⟩
     refine WA.one 3 (by kernel_rfl) ?_
     refine WO.call rfl (.u 4 rfl (.nil)) (Cl.func cb75 rfl) (ancestorsW cs _ _ _ _ _ _ _ (⟨#[82]⟩ : ByteArray) hlen) trivial rfl (by rintro _ _ ⟨A_4, c_4, l_4, rfl, rfl, hm_4⟩; exact ⟨_, (.take 4 rfl (.u 4 rfl (.nil)))⟩) ?_
     rintro _ _ ⟨A_4, c_4, l_4, rfl, rfl, hm_4⟩
     refine WA.one 6 (by kernel_rfl) ?_
     refine WO.loud rfl (.take 2 rfl (.nil)) (Ld.store ti105 rfl rfl rfl rfl rfl rfl) trivial rfl (by rintro _ _ rfl; exact ⟨_, (.take 4 rfl (.u 4 rfl (.nil)))⟩) ?_
     rintro _ _ rfl
     refine WA.phase (K' := [0, 1, 2, 3, 4, 5, 6, 7]) (Γq' := [blk b_6 105 [.slice A_1 l_1.length c_1], row kStr 9 A_4 c_4 l_4, row kStr 9 A_1 c_1 l_1, blk b_1 25 [.string lb, .slice A cs.length c, .slice B nB d, .string jp], rd kContact A c cs]) (by kernel_rfl) ?_
     refine WA.one 7 (by kernel_rfl) ?_
     refine WO.loud rfl (.take 2 rfl (.nil)) (Ld.store ti105 rfl rfl rfl rfl rfl rfl) trivial rfl (by rintro _ _ rfl; exact ⟨_, (.take 1 rfl (.take 1 rfl (.take 1 rfl (.take 1 rfl (.u 1 rfl (.nil))))))⟩) ?_
     rintro _ _ rfl
     refine WA.done (by kernel_rfl) ?_
     exact WX.cut (b_6, b_8, A_4, l_4, c_4, A_1, l_1, c_1) ⟨hm_1, hm_4⟩ ⟨rfl, rfl, rfl, rfl, trivial⟩ (.take 0 rfl (.take 0 rfl (.take 0 rfl (.take 0 rfl (.take 0 rfl (.u 0 rfl (.nil)))))))
   ·
    refine WO.loud rfl (.nil) (Ld.alloc ti105 rfl) trivial rfl (by rintro _ _ ⟨b_9, rfl, rfl⟩; exact ⟨_, (.take 2 rfl (.u 2 rfl (.nil)))⟩) ?_
    rintro _ _ ⟨b_9, rfl, rfl⟩
    refine WA.two 3 4 (by kernel_rfl) ?_ ?_
    ·
     refine WO.call rfl (.u 3 rfl (.nil)) (Cl.func cb75 rfl) (ancestorsW cs _ _ _ _ _ _ _ (⟨#[82]⟩ : ByteArray) hlen) trivial rfl (by rintro _ _ ⟨A_5, c_5, l_5, rfl, rfl, hm_5⟩; exact ⟨_, (.take 3 rfl (.u 3 rfl (.nil)))⟩) ?_
     rintro _ _ ⟨A_5, c_5, l_5, rfl, rfl, hm_5⟩
     refine WA.one 4 (by kernel_rfl) ?_
     refine WO.loud rfl (.nil) (Ld.alloc ti105 rfl) trivial rfl (by rintro _ _ ⟨b_10, rfl, rfl⟩; exact ⟨_, (.take 4 rfl (.u 4 rfl (.nil)))⟩) ?_
     rintro _ _ ⟨b_10, rfl, rfl⟩
     refine WA.one 6 (by kernel_rfl) ?_
     refine WO.loud rfl (.take 0 rfl (.nil)) (Ld.store ti105 rfl rfl rfl rfl rfl rfl) trivial rfl (by rintro _ _ rfl; exact ⟨_, (.take 4 rfl (.u 4 rfl (.nil)))⟩) ?_
     rintro _ _ rfl
     refine WA.phase (K' := [0, 1, 2, 3, 4, 5, 6, 7]) (Γq' := [blk b_10 105 [.slice A_1 l_1.length c_1], row kStr 9 A_5 c_5 l_5, row kStr 9 A_1 c_1 l_1, blk b_1 25 [.string lb, .slice A cs.length c, .slice B nB d, .string jp], rd kContact A c cs]) (by kernel_rfl) ?_
     refine WA.one 7 (by kernel_rfl) ?_
     refine WO.loud rfl (.take 2 rfl (.nil)) (Ld.store ti105 rfl rfl rfl rfl rfl rfl) trivial rfl (by rintro _ _ rfl; exact ⟨_, (.take 1 rfl (.take 1 rfl (.take 1 rfl (.take 1 rfl (.u 1 rfl (.nil))))))⟩) ?_
     rintro _ _ rfl
     refine WA.done (by kernel_rfl) ?_
     exact WX.cut (b_10, b_9, A_5, l_5, c_5, A_1, l_1, c_1) ⟨hm_1, hm_5⟩ ⟨rfl, rfl, rfl, rfl, trivial⟩ (.take 0 rfl (.take 0 rfl (.take 0 rfl (.take 0 rfl (.take 0 rfl (.u 0 rfl (.nil)))))))
    ·
     refine WO.loud rfl (.nil) (Ld.alloc ti105 rfl) trivial rfl (by rintro _ _ ⟨b_11, rfl, rfl⟩; exact ⟨_, (.take 3 rfl (.u 3 rfl (.nil)))⟩) ?_
     rintro _ _ ⟨b_11, rfl, rfl⟩
     refine WA.one 3 (by kernel_rfl) ?_
     refine WO.call rfl (.u 4 rfl (.nil)) (Cl.func cb75 rfl) (ancestorsW cs _ _ _ _ _ _ _ (⟨#[82]⟩ : ByteArray) hlen) trivial rfl (by rintro _ _ ⟨A_6, c_6, l_6, rfl, rfl, hm_6⟩; exact ⟨_, (.take 4 rfl (.u 4 rfl (.nil)))⟩) ?_
     rintro _ _ ⟨A_6, c_6, l_6, rfl, rfl, hm_6⟩
     refine WA.one 6 (by kernel_rfl) ?_
     refine WO.loud rfl (.take 1 rfl (.nil)) (Ld.store ti105 rfl rfl rfl rfl rfl rfl) trivial rfl (by rintro _ _ rfl; exact ⟨_, (.take 4 rfl (.u 4 rfl (.nil)))⟩) ?_
     rintro _ _ rfl
     refine WA.phase (K' := [0, 1, 2, 3, 4, 5, 6, 7]) (Γq' := [blk b_11 105 [.slice A_1 l_1.length c_1], row kStr 9 A_6 c_6 l_6, row kStr 9 A_1 c_1 l_1, blk b_1 25 [.string lb, .slice A cs.length c, .slice B nB d, .string jp], rd kContact A c cs]) (by kernel_rfl) ?_
     refine WA.one 7 (by kernel_rfl) ?_
     refine WO.loud rfl (.take 2 rfl (.nil)) (Ld.store ti105 rfl rfl rfl rfl rfl rfl) trivial rfl (by rintro _ _ rfl; exact ⟨_, (.take 1 rfl (.take 1 rfl (.take 1 rfl (.take 1 rfl (.u 1 rfl (.nil))))))⟩) ?_
     rintro _ _ rfl
     refine WA.done (by kernel_rfl) ?_
     exact WX.cut (b_11, b_9, A_6, l_6, c_6, A_1, l_1, c_1) ⟨hm_1, hm_6⟩ ⟨rfl, rfl, rfl, rfl, trivial⟩ (.take 0 rfl (.take 0 rfl (.take 0 rfl (.take 0 rfl (.take 0 rfl (.u 0 rfl (.nil)))))))
  ·
   refine WO.loud rfl (.nil) (Ld.alloc ti105 rfl) trivial rfl (by rintro _ _ ⟨b_12, rfl, rfl⟩; exact ⟨_, (.take 1 rfl (.u 1 rfl (.nil)))⟩) ?_
   rintro _ _ ⟨b_12, rfl, rfl⟩
   refine WA.two 1 5 (by kernel_rfl) ?_ ?_
   ·
    refine WO.call rfl (.u 2 rfl (.nil)) (Cl.func cb74 rfl) (reachableW cs _ _ _ _ _ _ _ (⟨#[76]⟩ : ByteArray) hlen) trivial rfl (by rintro _ _ ⟨A_7, c_7, l_7, rfl, rfl, hm_7⟩; exact ⟨_, (.take 2 rfl (.u 2 rfl (.nil)))⟩) ?_
    rintro _ _ ⟨A_7, c_7, l_7, rfl, rfl, hm_7⟩
    refine WA.two 3 5 (by kernel_rfl) ?_ ?_
    ·
     refine WO.call rfl (.u 3 rfl (.nil)) (Cl.func cb75 rfl) (ancestorsW cs _ _ _ _ _ _ _ (⟨#[82]⟩ : ByteArray) hlen) trivial rfl (by rintro _ _ ⟨A_8, c_8, l_8, rfl, rfl, hm_8⟩; exact ⟨_, (.take 3 rfl (.u 3 rfl (.nil)))⟩) ?_
     rintro _ _ ⟨A_8, c_8, l_8, rfl, rfl, hm_8⟩
     refine WA.one 5 (by kernel_rfl) ?_
     refine WO.loud rfl (.nil) (Ld.alloc ti105 rfl) trivial rfl (by rintro _ _ ⟨b_13, rfl, rfl⟩; exact ⟨_, (.take 4 rfl (.u 4 rfl (.nil)))⟩) ?_
     rintro _ _ ⟨b_13, rfl, rfl⟩
     refine WA.one 6 (by kernel_rfl) ?_
     refine WO.loud rfl (.take 3 rfl (.nil)) (Ld.store ti105 rfl rfl rfl rfl rfl rfl) trivial rfl (by rintro _ _ rfl; exact ⟨_, (.take 4 rfl (.u 4 rfl (.nil)))⟩) ?_
     rintro _ _ rfl
     refine WA.phase (K' := [0, 1, 2, 3, 4, 5, 6, 7]) (Γq' := [blk b_12 105 [.slice A_7 l_7.length c_7], row kStr 9 A_8 c_8 l_8, row kStr 9 A_7 c_7 l_7, blk b_1 25 [.string lb, .slice A cs.length c, .slice B nB d, .string jp], rd kContact A c cs]) (by kernel_rfl) ?_
     refine WA.one 7 (by kernel_rfl) ?_
     refine WO.loud rfl (.take 1 rfl (.nil)) (Ld.store ti105 rfl rfl rfl rfl rfl rfl) trivial rfl (by rintro _ _ rfl; exact ⟨_, (.take 1 rfl (.take 1 rfl (.take 1 rfl (.take 1 rfl (.u 1 rfl (.nil))))))⟩) ?_
     rintro _ _ rfl
     refine WA.done (by kernel_rfl) ?_
     exact WX.cut (b_12, b_13, A_8, l_8, c_8, A_7, l_7, c_7) ⟨hm_7, hm_8⟩ ⟨rfl, rfl, rfl, rfl, trivial⟩ (.take 0 rfl (.take 0 rfl (.take 0 rfl (.take 0 rfl (.take 0 rfl (.u 0 rfl (.nil)))))))
    ·
     refine WO.loud rfl (.nil) (Ld.alloc ti105 rfl) trivial rfl (by rintro _ _ ⟨b_14, rfl, rfl⟩; exact ⟨_, (.take 3 rfl (.u 3 rfl (.nil)))⟩) ?_
     rintro _ _ ⟨b_14, rfl, rfl⟩
     refine WA.one 3 (by kernel_rfl) ?_
     refine WO.call rfl (.u 4 rfl (.nil)) (Cl.func cb75 rfl) (ancestorsW cs _ _ _ _ _ _ _ (⟨#[82]⟩ : ByteArray) hlen) trivial rfl (by rintro _ _ ⟨A_9, c_9, l_9, rfl, rfl, hm_9⟩; exact ⟨_, (.take 4 rfl (.u 4 rfl (.nil)))⟩) ?_
     rintro _ _ ⟨A_9, c_9, l_9, rfl, rfl, hm_9⟩
     refine WA.one 6 (by kernel_rfl) ?_
     refine WO.loud rfl (.take 3 rfl (.nil)) (Ld.store ti105 rfl rfl rfl rfl rfl rfl) trivial rfl (by rintro _ _ rfl; exact ⟨_, (.take 4 rfl (.u 4 rfl (.nil)))⟩) ?_
     rintro _ _ rfl
     refine WA.phase (K' := [0, 1, 2, 3, 4, 5, 6, 7]) (Γq' := [blk b_12 105 [.slice A_7 l_7.length c_7], row kStr 9 A_9 c_9 l_9, row kStr 9 A_7 c_7 l_7, blk b_1 25 [.string lb, .slice A cs.length c, .slice B nB d, .string jp], rd kContact A c cs]) (by kernel_rfl) ?_
     refine WA.one 7 (by kernel_rfl) ?_
     refine WO.loud rfl (.take 2 rfl (.nil)) (Ld.store ti105 rfl rfl rfl rfl rfl rfl) trivial rfl (by rintro _ _ rfl; exact ⟨_, (.take 1 rfl (.take 1 rfl (.take 1 rfl (.take 1 rfl (.u 1 rfl (.nil))))))⟩) ?_
     rintro _ _ rfl
     refine WA.done (by kernel_rfl) ?_
     exact WX.cut (b_12, b_14, A_9, l_9, c_9, A_7, l_7, c_7) ⟨hm_7, hm_9⟩ ⟨rfl, rfl, rfl, rfl, trivial⟩ (.take 0 rfl (.take 0 rfl (.take 0 rfl (.take 0 rfl (.take 0 rfl (.u 0 rfl (.nil)))))))
   ·
    refine WO.loud rfl (.nil) (Ld.alloc ti105 rfl) trivial rfl (by rintro _ _ ⟨b_15, rfl, rfl⟩; exact ⟨_, (.take 2 rfl (.u 2 rfl (.nil)))⟩) ?_
    rintro _ _ ⟨b_15, rfl, rfl⟩
    refine WA.one 1 (by kernel_rfl) ?_
    refine WO.call rfl (.u 3 rfl (.nil)) (Cl.func cb74 rfl) (reachableW cs _ _ _ _ _ _ _ (⟨#[76]⟩ : ByteArray) hlen) trivial rfl (by rintro _ _ ⟨A_10, c_10, l_10, rfl, rfl, hm_10⟩; exact ⟨_, (.take 3 rfl (.u 3 rfl (.nil)))⟩) ?_
    rintro _ _ ⟨A_10, c_10, l_10, rfl, rfl, hm_10⟩
    refine WA.one 3 (by kernel_rfl) ?_
    refine WO.call rfl (.u 4 rfl (.nil)) (Cl.func cb75 rfl) (ancestorsW cs _ _ _ _ _ _ _ (⟨#[82]⟩ : ByteArray) hlen) trivial rfl (by rintro _ _ ⟨A_11, c_11, l_11, rfl, rfl, hm_11⟩; exact ⟨_, (.take 4 rfl (.u 4 rfl (.nil)))⟩) ?_
    rintro _ _ ⟨A_11, c_11, l_11, rfl, rfl, hm_11⟩
    refine WA.one 6 (by kernel_rfl) ?_
    refine WO.loud rfl (.take 3 rfl (.nil)) (Ld.store ti105 rfl rfl rfl rfl rfl rfl) trivial rfl (by rintro _ _ rfl; exact ⟨_, (.take 4 rfl (.u 4 rfl (.nil)))⟩) ?_
    rintro _ _ rfl
    refine WA.phase (K' := [0, 1, 2, 3, 4, 5, 6, 7]) (Γq' := [blk b_12 105 [.slice A_10 l_10.length c_10], row kStr 9 A_11 c_11 l_11, row kStr 9 A_10 c_10 l_10, blk b_1 25 [.string lb, .slice A cs.length c, .slice B nB d, .string jp], rd kContact A c cs]) (by kernel_rfl) ?_
    refine WA.one 7 (by kernel_rfl) ?_
    refine WO.loud rfl (.take 3 rfl (.nil)) (Ld.store ti105 rfl rfl rfl rfl rfl rfl) trivial rfl (by rintro _ _ rfl; exact ⟨_, (.take 1 rfl (.take 1 rfl (.take 1 rfl (.take 1 rfl (.u 1 rfl (.nil))))))⟩) ?_
    rintro _ _ rfl
    refine WA.done (by kernel_rfl) ?_
    exact WX.cut (b_12, b_15, A_11, l_11, c_11, A_10, l_10, c_10) ⟨hm_10, hm_11⟩ ⟨rfl, rfl, rfl, rfl, trivial⟩ (.take 0 rfl (.take 0 rfl (.take 0 rfl (.take 0 rfl (.take 0 rfl (.u 0 rfl (.nil)))))))
  ·
   refine WO.loud rfl (.nil) (Ld.alloc ti105 rfl) trivial rfl (by rintro _ _ ⟨b_16, rfl, rfl⟩; exact ⟨_, (.take 1 rfl (.u 1 rfl (.nil)))⟩) ?_
   rintro _ _ ⟨b_16, rfl, rfl⟩
   refine WA.two 1 4 (by kernel_rfl) ?_ ?_
   ·
    refine WO.call rfl (.u 2 rfl (.nil)) (Cl.func cb74 rfl) (reachableW cs _ _ _ _ _ _ _ (⟨#[76]⟩ : ByteArray) hlen) trivial rfl (by rintro _ _ ⟨A_12, c_12, l_12, rfl, rfl, hm_12⟩; exact ⟨_, (.take 2 rfl (.u 2 rfl (.nil)))⟩) ?_
    rintro _ _ ⟨A_12, c_12, l_12, rfl, rfl, hm_12⟩
    refine WA.two 3 4 (by kernel_rfl) ?_ ?_
    ·
     refine WO.call rfl (.u 3 rfl (.nil)) (Cl.func cb75 rfl) (ancestorsW cs _ _ _ _ _ _ _ (⟨#[82]⟩ : ByteArray) hlen) trivial rfl (by rintro _ _ ⟨A_13, c_13, l_13, rfl, rfl, hm_13⟩; exact ⟨_, (.take 3 rfl (.u 3 rfl (.nil)))⟩) ?_
     rintro _ _ ⟨A_13, c_13, l_13, rfl, rfl, hm_13⟩
     refine WA.one 4 (by kernel_rfl) ?_
     refine WO.loud rfl (.nil) (Ld.alloc ti105 rfl) trivial rfl (by rintro _ _ ⟨b_17, rfl, rfl⟩; exact ⟨_, (.take 4 rfl (.u 4 rfl (.nil)))⟩) ?_
     rintro _ _ ⟨b_17, rfl, rfl⟩
     refine WA.one 6 (by kernel_rfl) ?_
     refine WO.loud rfl (.take 0 rfl (.nil)) (Ld.store ti105 rfl rfl rfl rfl rfl rfl) trivial rfl (by rintro _ _ rfl; exact ⟨_, (.take 4 rfl (.u 4 rfl (.nil)))⟩) ?_
     rintro _ _ rfl
     refine WA.phase (K' := [0, 1, 2, 3, 4, 5, 6, 7]) (Γq' := [blk b_17 105 [.slice A_12 l_12.length c_12], row kStr 9 A_13 c_13 l_13, row kStr 9 A_12 c_12 l_12, blk b_1 25 [.string lb, .slice A cs.length c, .slice B nB d, .string jp], rd kContact A c cs]) (by kernel_rfl) ?_
     refine WA.one 7 (by kernel_rfl) ?_
     refine WO.loud rfl (.take 3 rfl (.nil)) (Ld.store ti105 rfl rfl rfl rfl rfl rfl) trivial rfl (by rintro _ _ rfl; exact ⟨_, (.take 1 rfl (.take 1 rfl (.take 1 rfl (.take 1 rfl (.u 1 rfl (.nil))))))⟩) ?_
     rintro _ _ rfl
     refine WA.done (by kernel_rfl) ?_
     exact WX.cut (b_17, b_16, A_13, l_13, c_13, A_12, l_12, c_12) ⟨hm_12, hm_13⟩ ⟨rfl, rfl, rfl, rfl, trivial⟩ (.take 0 rfl (.take 0 rfl (.take 0 rfl (.take 0 rfl (.take 0 rfl (.u 0 rfl (.nil)))))))
    ·
     refine WO.loud rfl (.nil) (Ld.alloc ti105 rfl) trivial rfl (by rintro _ _ ⟨b_18, rfl, rfl⟩; exact ⟨_, (.take 3 rfl (.u 3 rfl (.nil)))⟩) ?_
     rintro _ _ ⟨b_18, rfl, rfl⟩
     refine WA.one 3 (by kernel_rfl) ?_
     refine WO.call rfl (.u 4 rfl (.nil)) (Cl.func cb75 rfl) (ancestorsW cs _ _ _ _ _ _ _ (⟨#[82]⟩ : ByteArray) hlen) trivial rfl (by rintro _ _ ⟨A_14, c_14, l_14, rfl, rfl, hm_14⟩; exact ⟨_, (.take 4 rfl (.u 4 rfl (.nil)))⟩) ?_
     rintro _ _ ⟨A_14, c_14, l_14, rfl, rfl, hm_14⟩
     refine WA.one 6 (by kernel_rfl) ?_
     refine WO.loud rfl (.take 1 rfl (.nil)) (Ld.store ti105 rfl rfl rfl rfl rfl rfl) trivial rfl (by rintro _ _ rfl; exact ⟨_, (.take 4 rfl (.u 4 rfl (.nil)))⟩) ?_
     rintro _ _ rfl
     refine WA.phase (K' := [0, 1, 2, 3, 4, 5, 6, 7]) (Γq' := [blk b_18 105 [.slice A_12 l_12.length c_12], row kStr 9 A_14 c_14 l_14, row kStr 9 A_12 c_12 l_12, blk b_1 25 [.string lb, .slice A cs.length c, .slice B nB d, .string jp], rd kContact A c cs]) (by kernel_rfl) ?_
     refine WA.one 7 (by kernel_rfl) ?_
     refine WO.loud rfl (.take 3 rfl (.nil)) (Ld.store ti105 rfl rfl rfl rfl rfl rfl) trivial rfl (by rintro _ _ rfl; exact ⟨_, (.take 1 rfl (.take 1 rfl (.take 1 rfl (.take 1 rfl (.u 1 rfl (.nil))))))⟩) ?_
     rintro _ _ rfl
     refine WA.done (by kernel_rfl) ?_
     exact WX.cut (b_18, b_16, A_14, l_14, c_14, A_12, l_12, c_12) ⟨hm_12, hm_14⟩ ⟨rfl, rfl, rfl, rfl, trivial⟩ (.take 0 rfl (.take 0 rfl (.take 0 rfl (.take 0 rfl (.take 0 rfl (.u 0 rfl (.nil)))))))
   ·
    refine WO.loud rfl (.nil) (Ld.alloc ti105 rfl) trivial rfl (by rintro _ _ ⟨b_19, rfl, rfl⟩; exact ⟨_, (.take 2 rfl (.u 2 rfl (.nil)))⟩) ?_
    rintro _ _ ⟨b_19, rfl, rfl⟩
    refine WA.one 1 (by kernel_rfl) ?_
    refine WO.call rfl (.u 3 rfl (.nil)) (Cl.func cb74 rfl) (reachableW cs _ _ _ _ _ _ _ (⟨#[76]⟩ : ByteArray) hlen) trivial rfl (by rintro _ _ ⟨A_15, c_15, l_15, rfl, rfl, hm_15⟩; exact ⟨_, (.take 3 rfl (.u 3 rfl (.nil)))⟩) ?_
    rintro _ _ ⟨A_15, c_15, l_15, rfl, rfl, hm_15⟩
    refine WA.one 3 (by kernel_rfl) ?_
    refine WO.call rfl (.u 4 rfl (.nil)) (Cl.func cb75 rfl) (ancestorsW cs _ _ _ _ _ _ _ (⟨#[82]⟩ : ByteArray) hlen) trivial rfl (by rintro _ _ ⟨A_16, c_16, l_16, rfl, rfl, hm_16⟩; exact ⟨_, (.take 4 rfl (.u 4 rfl (.nil)))⟩) ?_
    rintro _ _ ⟨A_16, c_16, l_16, rfl, rfl, hm_16⟩
    refine WA.one 6 (by kernel_rfl) ?_
    refine WO.loud rfl (.take 2 rfl (.nil)) (Ld.store ti105 rfl rfl rfl rfl rfl rfl) trivial rfl (by rintro _ _ rfl; exact ⟨_, (.take 4 rfl (.u 4 rfl (.nil)))⟩) ?_
    rintro _ _ rfl
    refine WA.phase (K' := [0, 1, 2, 3, 4, 5, 6, 7]) (Γq' := [blk b_19 105 [.slice A_15 l_15.length c_15], row kStr 9 A_16 c_16 l_16, row kStr 9 A_15 c_15 l_15, blk b_1 25 [.string lb, .slice A cs.length c, .slice B nB d, .string jp], rd kContact A c cs]) (by kernel_rfl) ?_
    refine WA.one 7 (by kernel_rfl) ?_
    refine WO.loud rfl (.take 3 rfl (.nil)) (Ld.store ti105 rfl rfl rfl rfl rfl rfl) trivial rfl (by rintro _ _ rfl; exact ⟨_, (.take 1 rfl (.take 1 rfl (.take 1 rfl (.take 1 rfl (.u 1 rfl (.nil))))))⟩) ?_
    rintro _ _ rfl
    refine WA.done (by kernel_rfl) ?_
    exact WX.cut (b_19, b_16, A_16, l_16, c_16, A_15, l_15, c_15) ⟨hm_15, hm_16⟩ ⟨rfl, rfl, rfl, rfl, trivial⟩ (.take 0 rfl (.take 0 rfl (.take 0 rfl (.take 0 rfl (.take 0 rfl (.u 0 rfl (.nil)))))))
 ·
  rintro ⟨b_2, b_3, A_2, l_2, c_2, A_1, l_1, c_1⟩ ⟨hm_1, hm_2⟩
  try dsimp only at hm_1 hm_2
  show WC _ _ _ _ _ _ [(1, .pointer (some ⟨b_1, 0, none⟩)), (2, .slice none 0 0), (3, .pointer (some ⟨b_2, 0, none⟩)), (4, .pointer (some ⟨b_3, 0, none⟩))] [blk b_3 105 [.slice A_2 l_2.length c_2], blk b_2 105 [.slice A_1 l_1.length c_1], row kStr 9 A_2 c_2 l_2, row kStr 9 A_1 c_1 l_1, blk b_1 25 [.string lb, .slice A cs.length c, .slice B nB d, .string jp], rd kContact A c cs]
  refine WC.seq ?_
  refine WC.turn (.take 2 rfl (.nil)) (freeze_row) ?_
  rintro _ rfl
  refine WC.turn (.take 3 rfl (.nil)) (freeze_row) ?_
  rintro _ rfl
  refine WC.region ?_
  refine WL.quiet (Qt.loadBA 4 rfl ta25 ti25 rfl rfl) rfl rfl ?_
  refine WL.call (.u 5 rfl (.nil)) (Cl.func cb67 rfl) (nodesW cs _ _ _ _ _ _ _ (by omega)) trivial rfl ?_
  rintro _ _ ⟨A_17, c_17, rfl, rfl⟩
  have hnp := nodesF_pos cs
  refine WL.turn (.take 0 rfl (.nil)) (row_open (hnp)) ?_
  rintro _ ⟨b_20, cur_1, rfl, rfl⟩
  refine WL.learn (Z := Unit) (Δ := fun _ => []) (φ := fun _ => (nodesF cs).length ≤ c_17 ∧ c_17 ≤ 9223372036854775807) 0 rfl (fun S w h => ⟨(), rowL_bounds h, nofacts⟩) ?_
  rintro _ ⟨hb_1, hb_2⟩
  refine WL.quiet (Qt.makeFunc (vs := []) rfl rfl) rfl rfl ?_
  refine WL.turn (.take 4 rfl (.take 3 rfl (.nil))) (conj_pack) ?_
  rintro _ rfl
  refine WL.turn (.u 2 rfl (.u 3 rfl (.nil))) (conj_pack) ?_
  rintro _ rfl
  refine WL.call (.take 2 rfl (.take 1 rfl (.use 0 rfl (no_conj (by simp [rd, pers])) (.nil)))) (Cl.func cb76 rfl) (deleteFuncW (nodesF cs) b_20 _ 77 cur_1 [.pointer (some ⟨b_2, 0, none⟩), .pointer (some ⟨b_3, 0, none⟩)] (conj [blk b_2 105 [.slice A_1 l_1.length c_1], blk b_3 105 [.slice A_2 l_2.length c_2]]) (conj [rd kStr A_1 c_1 l_1, rd kStr A_2 c_2 l_2]) (fun x => yes (x ∈ l_1 ∧ x ∈ l_2)) cb77 (no_conj (by simp [rd, pers])) (free_conj (fun X hX => by simp only [List.mem_cons, List.not_mem_nil, or_false] at hX; rcases hX with rfl | rfl <;> exact free_blk _ _ _)) (fun x => Spec.packV (X := [conj [blk b_2 105 [.slice A_1 l_1.length c_1], blk b_3 105 [.slice A_2 l_2.length c_2]]]) (Spec.packed (U := [blk b_2 105 [.slice A_1 l_1.length c_1], blk b_3 105 [.slice A_2 l_2.length c_2]]) (V := [rd kStr A_1 c_1 l_1, rd kStr A_2 c_2 l_2]) (inBothW x l_1 l_2 _ _ _ _ b_2 b_3)))) trivial rfl ?_
  rintro _ _ ⟨cur_2, rfl, rfl⟩
  refine WL.quiet (Qt.assign rfl) rfl rfl ?_
  refine WL.nil ?_
  refine WX.next ?_
  refine WC.ret ?_
  refine WX.ret1 (.nil) rfl rfl ?_
  exact ⟨_, _, _, rfl, rfl, dead_iff hm_1 hm_2⟩

end Go.Proofs.YtolggjmgfijjfaaGreatDoor.Sep

/- A walk, printed by gen.py out of hints. -/
namespace Go.Proofs.YtolggjmgfijjfaaGreatDoor.Sep
open Go
variable {μ : Prop}
theorem flowCheckW (cs : List Contact) (lb jp : ByteArray) (A B : Option Addr) (c nB d : Nat) (hlen : cs.length ≤ 100000) : Spec μ Tryz.prog 19 #[.agg [.string lb, .slice A cs.length c, .slice B nB d, .string jp].toArray] [rd kContact A c cs] fun v Δ => ∃ e : Int, v = .int .i64 e ∧ Δ = [] ∧ (WF cs ↔ e = 0) := by
 refine Spec.of_body (n := 21) Tryz.func19 rfl rfl rfl fun w0 S0 O0 => ?_
 show WC _ _ _ _ _ _ [(0, .agg [.string lb, .slice A cs.length c, .slice B nB d, .string jp].toArray)] [rd kContact A c cs]
 refine WC.seq ?_
 refine WC.region ?_
 refine WL.loud (.nil) (Ld.box rfl rfl) trivial rfl ?_
 rintro _ _ ⟨b_1, rfl, rfl⟩
 refine WL.quiet (Qt.assign rfl) rfl rfl ?_
 refine WL.nil ?_
 refine WX.next ?_
 refine WC.seq ?_
 refine WC.seq ?_
 refine WC.region ?_
 refine WL.quiet (Qt.fieldAddrB tf25_1 rfl) rfl rfl ?_
 refine WL.quiet (Qt.loadB 0 rfl ta22 rfl rfl) rfl rfl ?_
 refine WL.quiet (Qt.lenS Tryz.underlying22 rfl) rfl rfl ?_
 refine WL.quiet (Qt.eql rfl rfl) rfl rfl ?_
 refine WL.nil ?_
 refine WX.next ?_
 refine WC.condD rfl (fun hc_1 => ?_) (fun hc_1 => ?_)
 ·
  refine WC.seq ?_
  refine WC.region ?_
  refine WL.quiet (Qt.assign rfl) rfl rfl ?_
  refine WL.nil ?_
  refine WX.next ?_
  refine WC.ret ?_
  refine WX.pass_ret ?_
  refine WX.ret1 (.nil) rfl rfl ?_
  exact ⟨_, rfl, rfl, ⟨fun h => absurd h.1 (by omega), fun h => absurd h (by decide)⟩⟩
 ·
  refine WC.skip ?_
  refine WX.next ?_
  refine WC.seq ?_
  refine WC.seq ?_
  refine WC.region ?_
  refine WL.quiet (Qt.loadBA 0 rfl ta25 ti25 rfl rfl) rfl rfl ?_
  refine WL.call (.u 1 rfl (.nil)) (Cl.func cb39 rfl) (topoSortW cs _ _ _ _ _ _ _ hlen) trivial rfl ?_
  rintro _ _ ⟨A_1, c_1, m_1, e_1, rfl, rfl, ht_1⟩
  refine WL.quiet (Qt.move rfl) rfl rfl ?_
  refine WL.quiet (Qt.extract rfl rfl) rfl rfl ?_
  refine WL.quiet (Qt.extract rfl rfl) rfl rfl ?_
  refine WL.quiet (Qt.assign rfl) rfl rfl ?_
  refine WL.quiet (Qt.assign rfl) rfl rfl ?_
  refine WL.nil ?_
  refine WX.next ?_
  refine WC.seq ?_
  refine WC.region ?_
  refine WL.quiet (Qt.move rfl) rfl rfl ?_
  refine WL.quiet (Qt.neq rfl rfl) rfl rfl ?_
  refine WL.nil ?_
  refine WX.next ?_
  refine WC.condD rfl (fun hc_2 => ?_) (fun hc_2 => ?_)
  ·
   refine WC.seq ?_
   refine WC.region ?_
   refine WL.quiet (Qt.move rfl) rfl rfl ?_
   refine WL.quiet (Qt.assign rfl) rfl rfl ?_
   refine WL.nil ?_
   refine WX.next ?_
   refine WC.ret ?_
   refine WX.pass_ret ?_
   refine WX.ret1 (.nil) rfl rfl ?_
   exact ⟨_, rfl, rfl, ⟨fun h => ht_1.1 h.2.1, fun h => absurd h (by omega)⟩⟩
  ·
   refine WC.skip ?_
   refine WX.next ?_
   refine WC.seq ?_
   refine WC.seq ?_
   refine WC.region ?_
   refine WL.quiet (Qt.loadBA 0 rfl ta25 ti25 rfl rfl) rfl rfl ?_
   refine WL.call (.u 1 rfl (.nil)) (Cl.func cb40 rfl) (deadNodesW cs _ _ _ _ _ _ _ hlen) trivial rfl ?_
   rintro _ _ ⟨A_2, c_2, m_2, rfl, rfl, hd_1⟩
   refine WL.quiet (Qt.lenS Tryz.underlying105 rfl) rfl rfl ?_
   refine WL.quiet (Qt.gtr rfl rfl) rfl rfl ?_
   refine WL.nil ?_
   refine WX.next ?_
   refine WC.condD rfl (fun hc_3 => ?_) (fun hc_3 => ?_)
   ·
    refine WC.seq ?_
    refine WC.region ?_
    refine WL.quiet (Qt.assign rfl) rfl rfl ?_
    refine WL.nil ?_
    refine WX.next ?_
    refine WC.ret ?_
    refine WX.pass_ret ?_
    refine WX.ret1 (.nil) rfl rfl ?_
    exact ⟨_, rfl, rfl, ⟨fun h => by have := hd_1.1 h.2.2; omega, fun h => absurd h (by decide)⟩⟩
   ·
    refine WC.skip ?_
    refine WX.next ?_
    refine WC.seq ?_
    refine WC.region ?_
    refine WL.quiet (Qt.assign rfl) rfl rfl ?_
    refine WL.nil ?_
    refine WX.next ?_
    refine WC.ret ?_
    refine WX.ret1 (.nil) rfl rfl ?_
    exact ⟨_, rfl, rfl, ⟨fun _ => rfl, fun _ => ⟨by omega, ht_1.2 (by omega), hd_1.2 (by omega)⟩⟩⟩

end Go.Proofs.YtolggjmgfijjfaaGreatDoor.Sep

/- A walk, printed by gen.py out of hints. -/
namespace Go.Proofs.YtolggjmgfijjfaaGreatDoor.Sep
open Go
variable {μ : Prop}
theorem samePairW (y x : Edge) (A B : Option Addr) (c d b : Nat)  : Spec μ Tryz.prog 42 #[.agg [.string y.frm, .string y.to, .int .i64 y.t.kind, .int .i64 y.t.n, .slice A y.t.kids.length c].toArray, .pointer (some ⟨b, 0, none⟩)] [rd kTree A c y.t.kids, blk b 73 [.string x.frm, .string x.to, .int .i64 x.t.kind, .int .i64 x.t.n, .slice B x.t.kids.length d]] fun v Δ => v = .bool (decide (y.frm = x.frm ∧ y.to = x.to)) ∧ Δ = [blk b 73 [.string x.frm, .string x.to, .int .i64 x.t.kind, .int .i64 x.t.n, .slice B x.t.kids.length d]] := by
 refine Spec.of_body (n := 9) Tryz.func42 rfl rfl rfl fun w0 S0 O0 => ?_
 show WC _ _ _ _ _ _ [(0, .agg [.string y.frm, .string y.to, .int .i64 y.t.kind, .int .i64 y.t.n, .slice A y.t.kids.length c].toArray), (1, .pointer (some ⟨b, 0, none⟩))] [rd kTree A c y.t.kids, blk b 73 [.string x.frm, .string x.to, .int .i64 x.t.kind, .int .i64 x.t.n, .slice B x.t.kids.length d]]
 refine WC.seq ?_
 refine WC.region ?_
 refine WL.loud (.nil) (Ld.box rfl rfl) trivial rfl ?_
 rintro _ _ ⟨b_1, rfl, rfl⟩
 refine WL.quiet (Qt.assign rfl) rfl rfl ?_
 refine WL.nil ?_
 refine WX.next ?_
 refine WC.seq ?_
 refine WC.region ?_
 refine WL.quiet (Qt.fieldAddrB tf73_0 rfl) rfl rfl ?_
 refine WL.quiet (Qt.loadBA 0 rfl ta71 ti71 rfl rfl) rfl rfl ?_
 refine WL.quiet (Qt.fieldAddrB tf73_0 rfl) rfl rfl ?_
 refine WL.quiet (Qt.loadBA 2 rfl ta71 ti71 rfl rfl) rfl rfl ?_
 refine WL.quiet (Qt.pairEq pe71 rfl rfl) rfl rfl ?_
 refine WL.quiet (Qt.assign rfl) rfl rfl ?_
 refine WL.nil ?_
 refine WX.next ?_
 refine WC.ret ?_
 refine WX.ret1 (.take 2 rfl (.nil)) rfl rfl ?_
 exact ⟨rfl, rfl⟩

end Go.Proofs.YtolggjmgfijjfaaGreatDoor.Sep

/- A walk, printed by gen.py out of hints. -/
namespace Go.Proofs.YtolggjmgfijjfaaGreatDoor.Sep
open Go
variable {μ : Prop}
theorem indexEdgeW (xs : List Edge) (A : Option Addr) (c fid : Nat) (us : List Value) (F E : Fact) (p : Edge → Bool) (hcall : Callable Tryz.prog fid) (hE : ∀ k, ¬ E.own k) (hf : ∀ (k : Nat) (hk : k < xs.length) (A : Option Addr) (c : Nat), Spec μ Tryz.prog fid ([Value.agg [.string xs[k].frm, .string xs[k].to, .int .i64 xs[k].t.kind, .int .i64 xs[k].t.n, .slice A xs[k].t.kids.length c].toArray] ++ us).toArray [rd kTree A c xs[k].t.kids, F, E] fun v Δ => v = .bool (p xs[k]) ∧ Δ = [F]) : Spec μ Tryz.prog 41 #[.slice A xs.length c, .func (.func fid) #[] us.toArray] [rd kEdge A c xs, F, E] fun v Δ => v = .int .i64 (idxF p xs) ∧ Δ = [F] := by
 refine Spec.of_body (n := 19) Tryz.func41 rfl rfl rfl fun w0 S0 O0 => ?_
 show WC _ _ _ _ _ _ [(0, .slice A xs.length c), (1, .func (.func fid) #[] us.toArray)] [rd kEdge A c xs, F, E]
 refine WC.learn (Z := Unit) (Δ := fun _ => []) (φ := fun _ => xs.length ≤ c ∧ c ≤ 9223372036854775807) 0 rfl (fun S w h => ⟨(), rd_bounds h, nofacts⟩) ?_
 rintro _ ⟨hb_1, hb_2⟩
 refine WC.seq ?_
 refine WC.region ?_
 refine WL.quiet (Qt.assign rfl) rfl rfl ?_
 refine WL.nil ?_
 refine WX.next ?_
 refine WC.seq ?_
 refine WC.seq ?_
 refine WC.region ?_
 refine WL.quiet (Qt.move rfl) rfl rfl ?_
 refine WL.quiet (Qt.lenS Tryz.underlying69 rfl) rfl rfl ?_
 refine WL.quiet (Qt.move rfl) rfl rfl ?_
 refine WL.nil ?_
 refine WX.next ?_
 refine WC.block ?_
 refine WC.loop (fun w0 : Nat => [(0, .slice A xs.length c), (1, .func (.func fid) #[] us.toArray), (4, .int .i64 0), (7, .int .i64 ((xs.length : Nat) : Int)), (8, .int .i64 ((w0 : Nat) : Int))]) (fun w0 => [rd kEdge A c xs, F, E]) (fun w0 => w0 ≤ xs.length ∧ ∀ (j : Nat) (hj : j < xs.length), j < w0 → p xs[j] = false) (fun w0 => xs.length - w0) 0 ⟨Nat.zero_le _, fun j _ h => absurd h (Nat.not_lt_zero _)⟩ ⟨rfl, rfl, rfl, rfl, rfl, trivial⟩ (.u 0 rfl (.take 1 rfl (.use 1 rfl hE (.nil)))) ?_
 rintro k ⟨hk, hb⟩
 try dsimp only at hk hb
 show WC _ _ _ _ _ _ [(0, .slice A xs.length c), (1, .func (.func fid) #[] us.toArray), (4, .int .i64 0), (7, .int .i64 ((xs.length : Nat) : Int)), (8, .int .i64 ((k : Nat) : Int))] [rd kEdge A c xs, F, E]
 refine WC.seq ?_
 refine WC.region ?_
 refine WL.quiet (Qt.lss rfl rfl) rfl rfl ?_
 refine WL.nil ?_
 refine WX.next ?_
 refine WC.seq ?_
 refine WC.condD rfl (fun hc_1 => ?_) (fun hc_1 => ?_)
 ·
  refine WC.skip ?_
  refine WX.next ?_
  refine WC.seq ?_
  refine WC.block ?_
  refine WC.seq ?_
  refine WC.region ?_
  refine WL.quiet (Qt.move rfl) rfl rfl ?_
  refine WL.quiet (Qt.assign rfl) rfl rfl ?_
  refine WL.nil ?_
  refine WX.next ?_
  refine WC.seq ?_
  refine WC.region ?_
  refine WL.quiet (Qt.move rfl) rfl rfl ?_
  refine WL.quiet (Qt.move rfl) rfl rfl ?_
  refine WL.quiet (Qt.move rfl) rfl rfl ?_
  have hj_1 : k < xs.length := by omega
  refine WL.learn 0 rfl (rd_at k hj_1 (vEdge _)) ?_
  rintro ⟨p_1, ⟨A_1, c_1⟩⟩ hA_1
  refine WL.quiet (Qt.indexAddrE k hA_1 Tryz.underlying69 ti73 rfl rfl (by first | assumption | omega)) rfl rfl ?_
  refine WL.quiet (Qt.loadCA (p := p_1.add (k * 5)) (o := 0) 0 rfl ta73 ti73 rfl rfl) rfl rfl ?_
  refine WL.call (.u 1 rfl (.take 3 rfl (.use 3 rfl hE (.nil)))) (Cl.val hcall rfl rfl) (hf k _ _ _) trivial rfl ?_
  rintro _ _ ⟨rfl, rfl⟩
  refine WL.nil ?_
  refine WX.next ?_
  refine WC.cond rfl (fun hc_2 => ?_) (fun hc_2 => ?_)
  ·
   refine WC.seq ?_
   refine WC.region ?_
   refine WL.quiet (Qt.move rfl) rfl rfl ?_
   refine WL.quiet (Qt.assign rfl) rfl rfl ?_
   refine WL.nil ?_
   refine WX.next ?_
   refine WC.ret ?_
   refine WX.block_ret ?_
   refine WX.pass_ret ?_
   refine WX.pass_ret ?_
   refine WX.block_ret ?_
   refine WX.pass_ret ?_
   refine WX.ret1 (.take 0 rfl (.nil)) rfl rfl ?_
   exact ⟨by rw [idxF_at (by omega) hc_2 hb], rfl⟩
  ·
   refine WC.skip ?_
   refine WX.block_end ?_
   refine WX.next ?_
   refine WC.region ?_
   refine WL.quiet (Qt.add rfl rfl (by omega)) rfl rfl ?_
   refine WL.quiet (Qt.move rfl) rfl rfl ?_
   refine WL.nil ?_
   exact WX.back (k + 1) ⟨by omega, notyet hb (by omega) hc_2⟩ (by first | omega | (dsimp only; omega) | (simp; omega)) ⟨rfl, rfl, rfl, rfl, rfl, trivial⟩ (.u 3 rfl (.take 0 rfl (.use 3 rfl hE (.nil))))
 ·
  refine WC.exit ?_
  refine WX.pass_exit ?_
  refine WX.pass_exit ?_
  refine WX.block_exit ?_
  refine WX.next ?_
  refine WC.seq ?_
  refine WC.region ?_
  refine WL.quiet (Qt.assign rfl) rfl rfl ?_
  refine WL.nil ?_
  refine WX.next ?_
  refine WC.ret ?_
  refine WX.ret1 (.take 1 rfl (.nil)) rfl rfl ?_
  exact ⟨by rw [idxF_none (fun j hj => hb j hj (by omega))], rfl⟩

end Go.Proofs.YtolggjmgfijjfaaGreatDoor.Sep

/- A walk, printed by gen.py out of hints. -/
namespace Go.Proofs.YtolggjmgfijjfaaGreatDoor.Sep
open Go
variable {μ : Prop}
theorem joinW (kind : Int) (a b : PT) (A B : Option Addr) (c d : Nat) (hnd : a.nodes + b.nodes ≤ 1000000) : Spec μ Tryz.prog 43 #[.int .i64 kind, .agg [.int .i64 a.kind, .int .i64 a.n, .slice A a.kids.length c].toArray, .agg [.int .i64 b.kind, .int .i64 b.n, .slice B b.kids.length d].toArray] [rd kTree A c a.kids, rd kTree B d b.kids] fun v Δ => ∃ A1 c1, v = .agg #[.int .i64 (joinT kind a b).kind, .int .i64 (joinT kind a b).n, .slice A1 (joinT kind a b).kids.length c1] ∧ Δ = [rd kTree A1 c1 (joinT kind a b).kids] := by
 refine Spec.of_body (n := 38) Tryz.func43 rfl rfl rfl fun w0 S0 O0 => ?_
 show WC _ _ _ _ _ _ [(0, .int .i64 kind), (1, .agg [.int .i64 a.kind, .int .i64 a.n, .slice A a.kids.length c].toArray), (2, .agg [.int .i64 b.kind, .int .i64 b.n, .slice B b.kids.length d].toArray)] [rd kTree A c a.kids, rd kTree B d b.kids]
 refine WC.learn (Z := Unit) (Δ := fun _ => []) (φ := fun _ => a.kids.length ≤ c ∧ c ≤ 9223372036854775807) 0 rfl (fun S w h => ⟨(), rd_bounds h, nofacts⟩) ?_
 rintro _ ⟨hb_1, hb_2⟩
 refine WC.learn (Z := Unit) (Δ := fun _ => []) (φ := fun _ => b.kids.length ≤ d ∧ d ≤ 9223372036854775807) 1 rfl (fun S w h => ⟨(), rd_bounds h, nofacts⟩) ?_
 rintro _ ⟨hb_3, hb_4⟩
 refine WC.seq ?_
 refine WC.region ?_
 refine WL.loud (.nil) (Ld.box rfl rfl) trivial rfl ?_
 rintro _ _ ⟨b_1, rfl, rfl⟩
 refine WL.loud (.nil) (Ld.box rfl rfl) trivial rfl ?_
 rintro _ _ ⟨b_2, rfl, rfl⟩
 refine WL.loud (.nil) (Ld.alloc ti33 rfl) trivial rfl ?_
 rintro _ _ ⟨b_3, rfl, rfl⟩
 refine WL.nil ?_
 refine WX.next ?_
 refine WC.seq ?_
 refine WC.region ?_
 refine WL.quiet (Qt.move rfl) rfl rfl ?_
 refine WL.quiet (Qt.build tp33 ti33 rfl rfl rfl) rfl rfl ?_
 refine WL.loud (.nil) (Ld.alloc ti33 rfl) trivial rfl ?_
 rintro _ _ ⟨b_4, rfl, rfl⟩
 refine WL.loud (.take 0 rfl (.nil)) (Ld.store ti33 rfl rfl rfl rfl rfl rfl) trivial rfl ?_
 rintro _ _ rfl
 refine WL.nil ?_
 refine WX.next ?_
 refine WC.seq ?_
 refine WC.seq ?_
 refine WC.region ?_
 refine WL.quiet (Qt.loadBA 3 rfl ta33 ti33 rfl rfl) rfl rfl ?_
 refine WL.quiet (Qt.loadBA 2 rfl ta33 ti33 rfl rfl) rfl rfl ?_
 refine WL.loud (.nil) (Ld.buildSlice (zs := [.int .i64 0, .int .i64 0, .slice none 0 0, .int .i64 0, .int .i64 0, .slice none 0 0]) Tryz.underlying31 ti33 rfl rfl (by kernel_rfl) rfl rfl) trivial rfl ?_
 rintro _ _ ⟨b_5, rfl, rfl⟩
 refine WL.turn (.take 0 rfl (.u 4 rfl (.u 5 rfl (.nil)))) (blk_row (e := kTree) (U := [rd kTree A c a.kids, rd kTree B d b.kids]) [a, b] (fun F hF => by revert F; simp [List.forall_mem_cons, rd, pers, cellsAt]) (fun S w h => Reps.append (xs := [a]) (ys := [b]) (l := [.int .i64 a.kind, .int .i64 a.n, .slice A a.kids.length c]) (m := [.int .i64 b.kind, .int .i64 b.n, .slice B b.kids.length d]) (Reps.one (mkTreeE (h _ (by simp)))) (Reps.one (mkTreeE (h _ (by simp))))) (by simp)) ?_
 rintro _ rfl
 refine WL.turn (.take 0 rfl (.nil)) (freeze_row) ?_
 rintro _ rfl
 refine WL.quiet (Qt.lenS Tryz.underlying31 rfl) rfl rfl ?_
 refine WL.quiet (Qt.move rfl) rfl rfl ?_
 refine WL.nil ?_
 refine WX.next ?_
 refine WC.block ?_
 refine WC.turn (.nil) (nil_row (e := kTree) (t := 33)) ?_
 rintro _ rfl
 refine WC.loop (fun w0 : Nat × (Option Addr) × Nat × (List PT) => [(0, .int .i64 kind), (6, .pointer (some ⟨b_3, 0, none⟩)), (7, .pointer (some ⟨b_4, 0, none⟩)), (14, .slice (some ⟨b_5, 0, none⟩) 2 2), (15, .int .i64 2), (16, .int .i64 ((w0.1 : Nat) : Int))]) (fun w0 => [row kTree 33 w0.2.1 w0.2.2.1 w0.2.2.2, rd kTree (some ⟨b_5, 0, none⟩) 2 [a, b], blk b_4 33 [.int .i64 kind, .int .i64 0, .slice w0.2.1 w0.2.2.2.length w0.2.2.1], blk b_3 33 [.int .i64 0, .int .i64 0, .slice none 0 0], blk b_2 33 [.int .i64 b.kind, .int .i64 b.n, .slice B b.kids.length d], blk b_1 33 [.int .i64 a.kind, .int .i64 a.n, .slice A a.kids.length c], rd kTree A c a.kids, rd kTree B d b.kids]) (fun w0 => w0.1 ≤ 2 ∧ w0.2.2.2 = flatK kind ([a, b].take w0.1)) (fun w0 => 2 - w0.1) (0, none, 0, []) ⟨by omega, rfl⟩ ⟨rfl, rfl, rfl, rfl, rfl, rfl, trivial⟩ (.take 0 rfl (.u 0 rfl (.take 1 rfl (.take 1 rfl (.take 1 rfl (.take 1 rfl (.u 1 rfl (.u 2 rfl (.nil))))))))) ?_
 rintro ⟨k, A1, c1, acc⟩ ⟨hk, hacc⟩
 try dsimp only at hk hacc
 show WC _ _ _ _ _ _ [(0, .int .i64 kind), (6, .pointer (some ⟨b_3, 0, none⟩)), (7, .pointer (some ⟨b_4, 0, none⟩)), (14, .slice (some ⟨b_5, 0, none⟩) 2 2), (15, .int .i64 2), (16, .int .i64 ((k : Nat) : Int))] [row kTree 33 A1 c1 acc, rd kTree (some ⟨b_5, 0, none⟩) 2 [a, b], blk b_4 33 [.int .i64 kind, .int .i64 0, .slice A1 acc.length c1], blk b_3 33 [.int .i64 0, .int .i64 0, .slice none 0 0], blk b_2 33 [.int .i64 b.kind, .int .i64 b.n, .slice B b.kids.length d], blk b_1 33 [.int .i64 a.kind, .int .i64 a.n, .slice A a.kids.length c], rd kTree A c a.kids, rd kTree B d b.kids]
 refine WC.seq ?_
 refine WC.region ?_
 refine WL.quiet (Qt.lss rfl rfl) rfl rfl ?_
 refine WL.nil ?_
 refine WX.next ?_
 refine WC.seq ?_
 refine WC.condD rfl (fun hc_1 => ?_) (fun hc_1 => ?_)
 ·
  refine WC.skip ?_
  refine WX.next ?_
  refine WC.seq ?_
  refine WC.block ?_
  refine WC.seq ?_
  have hab : k < [a, b].length := by show k < 2; omega
  have hfk := flatK_kid kind [a, b] k hab
  have hnk := nodes_kids [a, b][k]
  have hnab : nodesL [a, b] = a.nodes + b.nodes := by simp [nodesL]
  have hal : acc.length = (flatK kind ([a, b].take k)).length := by rw [hacc]
  have hnp := nodes_pos [a, b][k]
  refine WC.region ?_
  have hj_1 : k < [a, b].length := hab
  refine WL.learn 1 rfl (rd_at k hj_1 (vTree _)) ?_
  rintro ⟨p_1, ⟨A_1, c_1⟩⟩ hA_1
  refine WL.quiet (Qt.indexAddrE k hA_1 Tryz.underlying31 ti33 rfl rfl (by first | assumption | omega)) rfl rfl ?_
  refine WL.quiet (Qt.loadCA (p := p_1.add (k * 3)) (o := 0) 0 rfl ta33 ti33 rfl rfl) rfl rfl ?_
  refine WL.loud (.nil) (Ld.alloc ti33 rfl) trivial rfl ?_
  rintro _ _ ⟨b_6, rfl, rfl⟩
  refine WL.loud (.take 0 rfl (.nil)) (Ld.store ti33 rfl rfl rfl rfl rfl rfl) trivial rfl ?_
  rintro _ _ rfl
  refine WL.nil ?_
  refine WX.next ?_
  refine WC.seq ?_
  refine WC.region ?_
  refine WL.quiet (Qt.fieldAddrB tf33_0 rfl) rfl rfl ?_
  refine WL.quiet (Qt.loadB 0 rfl ta3 rfl rfl) rfl rfl ?_
  refine WL.quiet (Qt.move rfl) rfl rfl ?_
  refine WL.quiet (Qt.eql rfl rfl) rfl rfl ?_
  refine WL.nil ?_
  refine WX.next ?_
  refine WC.condD rfl (fun hc_2 => ?_) (fun hc_2 => ?_)
  ·
   refine WC.region ?_
   refine WL.quiet (Qt.fieldAddrB tf33_2 rfl) rfl rfl ?_
   refine WL.quiet (Qt.loadB 5 rfl ta31 rfl rfl) rfl rfl ?_
   refine WL.quiet (Qt.fieldAddrB tf33_2 rfl) rfl rfl ?_
   refine WL.quiet (Qt.loadB 0 rfl ta31 rfl rfl) rfl rfl ?_
   refine WL.loud (.take 3 rfl (.u 2 rfl (.nil))) (Ld.appendRd (e := kTree) (xs := acc) (ys := ([a, b][k].kids)) Tryz.underlying31 ti33 rfl (by decide) (by decide) rfl rfl (by first | omega | (simp; omega))) trivial rfl ?_
   rintro _ _ ⟨A_2, c_2, rfl, rfl⟩
   refine WL.quiet (Qt.fieldAddrB tf33_2 rfl) rfl rfl ?_
   refine WL.loud (.take 5 rfl (.nil)) (Ld.store ti31 rfl rfl rfl rfl rfl rfl) trivial rfl ?_
   rintro _ _ rfl
   refine WL.nil ?_
   refine WX.block_end ?_
   refine WX.next ?_
   refine WC.region ?_
   refine WL.quiet (Qt.add rfl rfl (by omega)) rfl rfl ?_
   refine WL.quiet (Qt.move rfl) rfl rfl ?_
   refine WL.nil ?_
   exact WX.back (k + 1, A_2, c_2, acc ++ ([a, b][k].kids)) ⟨by omega, by rw [flatK_take _ _ _ hab, hacc]; first | rw [if_pos hc_2] | rw [if_neg hc_2]⟩ (by first | omega | (dsimp only; omega) | (simp; omega)) ⟨rfl, rfl, rfl, rfl, rfl, rfl, trivial⟩ (.take 1 rfl (.u 4 rfl (.take 0 rfl (.take 4 rfl (.take 4 rfl (.take 4 rfl (.u 4 rfl (.u 5 rfl (.nil)))))))))
  ·
   refine WC.region ?_
   refine WL.quiet (Qt.fieldAddrB tf33_2 rfl) rfl rfl ?_
   refine WL.quiet (Qt.loadB 5 rfl ta31 rfl rfl) rfl rfl ?_
   refine WL.quiet (Qt.loadBA 0 rfl ta33 ti33 rfl rfl) rfl rfl ?_
   refine WL.loud (.nil) (Ld.buildSlice (zs := [.int .i64 0, .int .i64 0, .slice none 0 0]) Tryz.underlying31 ti33 rfl rfl (by kernel_rfl) rfl rfl) trivial rfl ?_
   rintro _ _ ⟨b_7, rfl, rfl⟩
   refine WL.loud (.take 4 rfl (.take 0 rfl (.u 2 rfl (.nil)))) (Ld.append1 (e := kTree) (xs := acc) ([a, b][k]) Tryz.underlying31 ti33 rfl (by decide) (by decide) rfl rfl (by first | omega | (simp; omega)) (fun S w h => mkTreeE (h _ (by simp)))) trivial rfl ?_
   rintro _ _ ⟨A_3, c_3, rfl, rfl⟩
   refine WL.quiet (Qt.fieldAddrB tf33_2 rfl) rfl rfl ?_
   refine WL.loud (.take 5 rfl (.nil)) (Ld.store ti31 rfl rfl rfl rfl rfl rfl) trivial rfl ?_
   rintro _ _ rfl
   refine WL.nil ?_
   refine WX.block_end ?_
   refine WX.next ?_
   refine WC.region ?_
   refine WL.quiet (Qt.add rfl rfl (by omega)) rfl rfl ?_
   refine WL.quiet (Qt.move rfl) rfl rfl ?_
   refine WL.nil ?_
   exact WX.back (k + 1, A_3, c_3, acc ++ [[a, b][k]]) ⟨by omega, by rw [flatK_take _ _ _ hab, hacc]; first | rw [if_pos hc_2] | rw [if_neg hc_2]⟩ (by first | omega | (dsimp only; omega) | (simp; omega)) ⟨rfl, rfl, rfl, rfl, rfl, rfl, trivial⟩ (.take 1 rfl (.u 4 rfl (.take 0 rfl (.take 4 rfl (.take 4 rfl (.take 4 rfl (.u 4 rfl (.u 5 rfl (.nil)))))))))
 ·
  refine WC.exit ?_
  refine WX.pass_exit ?_
  refine WX.pass_exit ?_
  refine WX.block_exit ?_
  refine WX.next ?_
  refine WC.seq ?_
  have hend : acc = flatK kind [a, b] := by rw [hacc, List.take_of_length_le (by show 2 ≤ k; omega)]
  subst hend
  refine WC.region ?_
  refine WL.quiet (Qt.loadBA 2 rfl ta33 ti33 rfl rfl) rfl rfl ?_
  refine WL.loud (.take 3 rfl (.nil)) (Ld.store ti33 rfl rfl rfl rfl rfl rfl) trivial rfl ?_
  rintro _ _ rfl
  refine WL.nil ?_
  refine WX.next ?_
  refine WC.ret ?_
  refine WX.turn (.take 1 rfl (.nil)) (freeze_row) ?_
  rintro _ rfl
  refine WX.retC 1 (.u 0 rfl (.nil)) rfl rfl rfl ta33 ti33 rfl ?_
  exact ⟨_, _, rfl, rfl⟩

end Go.Proofs.YtolggjmgfijjfaaGreatDoor.Sep

/- A walk, printed by gen.py out of hints. -/
namespace Go.Proofs.YtolggjmgfijjfaaGreatDoor.Sep
open Go
variable {μ : Prop}
theorem deleteEdgeW (xs : List Edge) (b c i j : Nat) (cur : List Value) (hij : i ≤ j) (hj : j ≤ xs.length) : Spec μ Tryz.prog 44 #[.slice (some ⟨b, 0, none⟩) xs.length c, .int .i64 ((i : Nat) : Int), .int .i64 ((j : Nat) : Int)] [rowL kEdge 73 b c xs cur] fun v Δ => ∃ cur1, v = .slice (some ⟨b, 0, none⟩) (xs.take i ++ xs.drop j).length c ∧ Δ = [rowL kEdge 73 b c (xs.take i ++ xs.drop j) cur1] := by
 refine Spec.of_body (n := 33) Tryz.func44 rfl rfl rfl fun w0 S0 O0 => ?_
 show WC _ _ _ _ _ _ [(0, .slice (some ⟨b, 0, none⟩) xs.length c), (1, .int .i64 ((i : Nat) : Int)), (2, .int .i64 ((j : Nat) : Int))] [rowL kEdge 73 b c xs cur]
 refine WC.learn (Z := Unit) (Δ := fun _ => []) (φ := fun _ => xs.length ≤ c ∧ c ≤ 9223372036854775807) 0 rfl (fun S w h => ⟨(), rowL_bounds h, nofacts⟩) ?_
 rintro _ ⟨hb_1, hb_2⟩
 have hlen2 : (xs.take i ++ xs.drop j).length = i + (xs.length - j) := by rw [List.length_append, List.length_take, List.length_drop]; omega
 refine WC.seq ?_
 refine WC.region ?_
 refine WL.quiet (Qt.assign rfl) rfl rfl ?_
 refine WL.nil ?_
 refine WX.next ?_
 refine WC.seq ?_
 refine WC.region ?_
 refine WL.quiet (Qt.move rfl) rfl rfl ?_
 refine WL.quiet (Qt.move rfl) rfl rfl ?_
 refine WL.quiet (Qt.move rfl) rfl rfl ?_
 refine WL.quiet (Qt.move rfl) rfl rfl ?_
 refine WL.quiet (Qt.lenS Tryz.underlying69 rfl) rfl rfl ?_
 refine WL.quiet (Qt.cut3 Tryz.underlying69 ti73 rfl rfl rfl rfl hij hj (by omega)) rfl rfl ?_
 refine WL.nil ?_
 refine WX.next ?_
 refine WC.seq ?_
 refine WC.seq ?_
 refine WC.region ?_
 refine WL.quiet (Qt.move rfl) rfl rfl ?_
 refine WL.quiet (Qt.move rfl) rfl rfl ?_
 refine WL.quiet (Qt.eql rfl rfl) rfl rfl ?_
 refine WL.nil ?_
 refine WX.next ?_
 refine WC.condD rfl (fun hc_1 => ?_) (fun hc_1 => ?_)
 ·
  refine WC.seq ?_
  refine WC.region ?_
  refine WL.quiet (Qt.move rfl) rfl rfl ?_
  refine WL.quiet (Qt.assign rfl) rfl rfl ?_
  refine WL.nil ?_
  refine WX.next ?_
  refine WC.ret ?_
  refine WX.pass_ret ?_
  have hsame : (xs.take i ++ xs.drop j) = xs := take_drop_eq (by omega)
  rw [hsame]
  refine WX.ret1 (.take 0 rfl (.nil)) rfl rfl ?_
  exact ⟨_, rfl, rfl⟩
 ·
  refine WC.skip ?_
  refine WX.next ?_
  refine WC.seq ?_
  refine WC.region ?_
  refine WL.quiet (Qt.move rfl) rfl rfl ?_
  refine WL.quiet (Qt.lenS Tryz.underlying69 rfl) rfl rfl ?_
  refine WL.quiet (Qt.assign rfl) rfl rfl ?_
  refine WL.nil ?_
  refine WX.next ?_
  refine WC.seq ?_
  refine WC.calm (Calm.then (calm_FQ _ _)) fun hC => ?_
  refine WC.draw (Γq := []) [0, 1, 2, 3, 4, 5, 6] mixed ?_
  refine WA.named (.nil) fun sl_1 => ?_
  refine WA.tk 0 (by kernel_rfl) rfl hC (Qt.move rfl) trivial rfl sl_1 ?_
  refine WA.tk 1 (by kernel_rfl) rfl hC (Qt.move rfl) trivial rfl sl_1 ?_
  refine WA.tk 2 (by kernel_rfl) rfl hC (Qt.cutHigh Tryz.underlying69 ti73 rfl rfl (by omega)) trivial rfl sl_1 ?_
  refine WA.tk 3 (by kernel_rfl) rfl hC (Qt.move rfl) trivial rfl sl_1 ?_
  refine WA.tk 4 (by kernel_rfl) rfl hC (Qt.move rfl) trivial rfl sl_1 ?_
  refine WA.tk 5 (by kernel_rfl) rfl hC (Qt.cutLowB Tryz.underlying69 ti73 rfl rfl hj (by omega)) trivial rfl sl_1 ?_
  refine WA.one 6 (by kernel_rfl) ?_
  refine WO.loud rfl (.take 0 rfl (.nil)) (Ld.appendSelf Tryz.underlying69 ti73 rfl rfl hij hj) trivial rfl (by rintro _ _ ⟨rfl, rfl⟩; exact ⟨_, (.nil)⟩) ?_
  rintro _ _ ⟨rfl, rfl⟩
  refine WA.phase (K' := [0, 1, 2, 3, 4, 5, 6, 7]) (Γq' := [rowL kEdge 73 b c (xs.take i ++ xs.drop j) (gone 5 cur i j xs.length)]) (by kernel_rfl) ?_
  refine WA.named (.take 0 rfl (.nil)) fun sl_2 => ?_
  refine WA.tk 7 (by kernel_rfl) rfl hC (Qt.assign rfl) trivial rfl sl_2 ?_
  refine WA.done (by kernel_rfl) ?_
  refine WX.next ?_
  refine WC.seq ?_
  refine WC.region ?_
  refine WL.quiet (Qt.move rfl) rfl rfl ?_
  refine WL.quiet (Qt.move rfl) rfl rfl ?_
  refine WL.quiet (Qt.lenS Tryz.underlying69 rfl) rfl rfl ?_
  refine WL.quiet (Qt.move rfl) rfl rfl ?_
  refine WL.quiet (Qt.cutMid Tryz.underlying69 ti73 rfl rfl rfl (by omega) (by omega)) rfl rfl ?_
  refine WL.loud (.take 0 rfl (.nil)) (Ld.clearR (i := (xs.take i ++ xs.drop j).length) (m := xs.length) Tryz.underlying69 ti73 rfl rfl rfl (Nat.le_refl _) (by omega) (by omega)) trivial rfl ?_
  rintro _ _ ⟨cur_1, rfl, rfl⟩
  refine WL.nil ?_
  refine WX.next ?_
  refine WC.seq ?_
  refine WC.region ?_
  refine WL.quiet (Qt.move rfl) rfl rfl ?_
  refine WL.quiet (Qt.assign rfl) rfl rfl ?_
  refine WL.nil ?_
  refine WX.next ?_
  refine WC.ret ?_
  refine WX.ret1 (.take 0 rfl (.nil)) rfl rfl ?_
  exact ⟨_, rfl, rfl⟩
theorem deleteEdgeW' (xs : List Edge) (b c i j n : Nat) (cur : List Value) (hn : xs.length = n) (hij : i ≤ j) (hj : j ≤ xs.length) : Spec μ Tryz.prog 44 #[.slice (some ⟨b, 0, none⟩) n c, .int .i64 ((i : Nat) : Int), .int .i64 ((j : Nat) : Int)] [rowL kEdge 73 b c xs cur] fun v Δ => ∃ cur1, v = .slice (some ⟨b, 0, none⟩) (xs.take i ++ xs.drop j).length c ∧ Δ = [rowL kEdge 73 b c (xs.take i ++ xs.drop j) cur1] := by
  subst hn
  exact deleteEdgeW xs b c i j cur hij hj

end Go.Proofs.YtolggjmgfijjfaaGreatDoor.Sep
