/- Texts of this proof, joined: what is of no program, and the walks of its functions -/
import Derived.Test.YtolggjmgfijjfaaGreatDoorCgD
set_option autoImplicit false
set_option linter.unusedVariables false
set_option linter.unusedSimpArgs false
set_option linter.unusedSectionVars false
set_option maxRecDepth 100000
/- A walk, printed by gen.py out of hints. -/
namespace Go.Proofs.YtolggjmgfijjfaaGreatDoor.Sep
open Go
variable {μ : Prop}
theorem whole17W (p : Addr) (A1 A2 : Option Addr) (c1 c2 : Nat)  : Spec μ Tryz.prog 38 #[.agg [.int .i64 2, .int .i64 1, .int .i64 0, .slice (some p) 1 1].toArray] [cellsAt p [.string (⟨#[]⟩ : ByteArray), .slice A1 2 c1, .slice A2 1 c2, .string (⟨#[]⟩ : ByteArray)], rd kContact A1 c1 ex17, rd kCoil A2 c2 co17, cellsAt ⟨0, 0, none⟩ (loadsT.map (Value.int .i64)), cellsAt ⟨1, 0, none⟩ (joinsT.map (Value.int .i64)), cellsAt ⟨2, 0, none⟩ (popsT.map (Value.int .i64)), cellsAt (⟨3, 0, none⟩ : Addr) [.int .i64 11, .int .i64 12, .int .i64 13, .int .i64 14]] fun v Δ => ∃ A c B n d, v = .tuple #[.agg [.int .i64 2, .int .i64 1, .int .i64 0, .int .i64 0, .slice A 4 c].toArray, .slice B n d, .int .i64 1, .int .i64 0] ∧ Δ = [rd kIns A c [Ins.mk 0 0 0 0, Ins.mk 3 0 1 0, Ins.mk 11 1 0 0, Ins.mk 16 0 0 0]] := by
 refine Spec.of_body (n := 145) Tryz.func38 rfl rfl rfl fun w0 S0 O0 => ?_
 show WC _ _ _ _ _ _ [(0, .agg [.int .i64 2, .int .i64 1, .int .i64 0, .slice (some p) 1 1].toArray)] [cellsAt p [.string (⟨#[]⟩ : ByteArray), .slice A1 2 c1, .slice A2 1 c2, .string (⟨#[]⟩ : ByteArray)], rd kContact A1 c1 ex17, rd kCoil A2 c2 co17, cellsAt ⟨0, 0, none⟩ (loadsT.map (Value.int .i64)), cellsAt ⟨1, 0, none⟩ (joinsT.map (Value.int .i64)), cellsAt ⟨2, 0, none⟩ (popsT.map (Value.int .i64)), cellsAt (⟨3, 0, none⟩ : Addr) [.int .i64 11, .int .i64 12, .int .i64 13, .int .i64 14]]
 refine WC.seq ?_
 refine WC.region ?_
 refine WL.loud (.nil) (Ld.box rfl rfl) trivial rfl ?_
 rintro _ _ ⟨b_1, rfl, rfl⟩
 refine WL.loud (.nil) (Ld.alloc ti60 rfl) trivial rfl ?_
 rintro _ _ ⟨b_2, rfl, rfl⟩
 refine WL.quiet (Qt.assign rfl) rfl rfl ?_
 refine WL.quiet (Qt.assign rfl) rfl rfl ?_
 refine WL.quiet (Qt.assign rfl) rfl rfl ?_
 refine WL.nil ?_
 refine WX.next ?_
 refine WC.seq ?_
 refine WC.seq ?_
 refine WC.region ?_
 refine WL.quiet (Qt.loadBA 1 rfl ta66 ti66 rfl rfl) rfl rfl ?_
 refine WL.call (.u 2 rfl (.u 3 rfl (.u 4 rfl (.nil)))) (Cl.func cb63 rfl) (check17W _ _ _ _ _) trivial rfl ?_
 rintro _ _ ⟨rfl, rfl⟩
 refine WL.quiet (Qt.move rfl) rfl rfl ?_
 refine WL.quiet (Qt.extract rfl rfl) rfl rfl ?_
 refine WL.quiet (Qt.extract rfl rfl) rfl rfl ?_
 refine WL.quiet (Qt.assign rfl) rfl rfl ?_
 refine WL.quiet (Qt.assign rfl) rfl rfl ?_
 refine WL.nil ?_
 refine WX.next ?_
 refine WC.seq ?_
 refine WC.region ?_
 refine WL.quiet (Qt.move rfl) rfl rfl ?_
 refine WL.quiet (Qt.neq rfl rfl) rfl rfl ?_
 refine WL.nil ?_
 refine WX.next ?_
 refine WC.no rfl ?_
 refine WC.skip ?_
 refine WX.next ?_
 refine WC.seq ?_
 refine WC.region ?_
 refine WL.quiet (Qt.fieldAddrB tf66_0 rfl) rfl rfl ?_
 refine WL.quiet (Qt.loadB 1 rfl ta3 rfl rfl) rfl rfl ?_
 refine WL.quiet (Qt.fieldAddrB tf66_1 rfl) rfl rfl ?_
 refine WL.quiet (Qt.loadB 1 rfl ta3 rfl rfl) rfl rfl ?_
 refine WL.quiet (Qt.fieldAddrB tf66_2 rfl) rfl rfl ?_
 refine WL.quiet (Qt.loadB 1 rfl ta3 rfl rfl) rfl rfl ?_
 refine WL.quiet (Qt.build tp58 ti58 rfl rfl rfl) rfl rfl ?_
 refine WL.quiet (Qt.build tp60 ti60 rfl rfl rfl) rfl rfl ?_
 refine WL.loud (.nil) (Ld.alloc ti60 rfl) trivial rfl ?_
 rintro _ _ ⟨b_3, rfl, rfl⟩
 refine WL.loud (.take 0 rfl (.nil)) (Ld.store ti60 rfl rfl rfl rfl rfl rfl) trivial rfl ?_
 rintro _ _ rfl
 refine WL.nil ?_
 refine WX.next ?_
 refine WC.seq ?_
 refine WC.region ?_
 refine WL.quiet (Qt.assign rfl) rfl rfl ?_
 refine WL.nil ?_
 refine WX.next ?_
 refine WC.seq ?_
 refine WC.region ?_
 refine WL.loud (.nil) (Ld.makeMap (E := strKey) (V := Value.int .i64)) trivial rfl ?_
 rintro _ _ ⟨b_4, rfl, rfl⟩
 refine WL.quiet (Qt.assign rfl) rfl rfl ?_
 refine WL.nil ?_
 refine WX.next ?_
 refine WC.seq ?_
 refine WC.region ?_
 refine WL.loud (.nil) (Ld.makeMap (E := intKey) (V := Value.string)) trivial rfl ?_
 rintro _ _ ⟨b_5, rfl, rfl⟩
 refine WL.quiet (Qt.assign rfl) rfl rfl ?_
 refine WL.nil ?_
 refine WX.next ?_
 refine WC.seq ?_
 refine WC.seq ?_
 refine WC.turn (.nil) (nil_row (e := kInt) (t := 3)) ?_
 rintro _ rfl
 refine WC.turn (.nil) (nil_row (e := kIns) (t := 49)) ?_
 rintro _ rfl
 refine WC.region ?_
 refine WL.quiet (Qt.fieldAddrB tf66_3 rfl) rfl rfl ?_
 refine WL.quiet (Qt.loadB 6 rfl ta64 rfl rfl) rfl rfl ?_
 refine WL.quiet (Qt.lenS Tryz.underlying64 rfl) rfl rfl ?_
 refine WL.quiet (Qt.move rfl) rfl rfl ?_
 refine WL.nil ?_
 refine WX.next ?_
 refine WC.block ?_
 refine WC.unroll 2 ?_
 refine WR.one ?_
 refine WC.seq ?_
 refine WC.region ?_
 refine WL.quiet (Qt.lss rfl rfl) rfl rfl ?_
 refine WL.nil ?_
 refine WX.next ?_
 refine WC.seq ?_
 refine WC.yes rfl ?_
 refine WC.skip ?_
 refine WX.next ?_
 refine WC.seq ?_
 refine WC.block ?_
 refine WC.seq ?_
 refine WC.region ?_
 refine WL.quiet (Qt.move rfl) rfl rfl ?_
 refine WL.quiet (Qt.indexAddrE 0 rfl Tryz.underlying64 ti25 rfl rfl (by decide)) rfl rfl ?_
 refine WL.quiet (Qt.loadCA (p := p) (o := 0) 7 rfl ta25 ti25 rfl rfl) rfl rfl ?_
 refine WL.loud (.nil) (Ld.alloc ti25 rfl) trivial rfl ?_
 rintro _ _ ⟨b_6, rfl, rfl⟩
 refine WL.quiet (Qt.assign rfl) rfl rfl ?_
 refine WL.loud (.take 0 rfl (.nil)) (Ld.store ti25 rfl rfl rfl rfl rfl rfl) trivial rfl ?_
 rintro _ _ rfl
 refine WL.nil ?_
 refine WX.next ?_
 refine WC.seq ?_
 refine WC.region ?_
 refine WL.quiet (Qt.loadBA 0 rfl ta25 ti25 rfl rfl) rfl rfl ?_
 refine WL.quiet (Qt.fieldAddrB tf60_0 rfl) rfl rfl ?_
 refine WL.quiet (Qt.fieldAddrB tf58_3 rfl) rfl rfl ?_
 refine WL.quiet (Qt.loadB 5 rfl ta3 rfl rfl) rfl rfl ?_
 refine WL.call (.u 9 rfl (.u 11 rfl (.u 12 rfl (.u 13 rfl (.nil))))) (Cl.func cb64 rfl) (contacts17W _ _ _ _) trivial rfl ?_
 rintro _ _ ⟨A_1, c_1, rfl, rfl⟩
 refine WL.quiet (Qt.move rfl) rfl rfl ?_
 refine WL.quiet (Qt.extract rfl rfl) rfl rfl ?_
 refine WL.quiet (Qt.extract rfl rfl) rfl rfl ?_
 refine WL.quiet (Qt.assign rfl) rfl rfl ?_
 refine WL.quiet (Qt.assign rfl) rfl rfl ?_
 refine WL.nil ?_
 refine WX.next ?_
 refine WC.seq ?_
 refine WC.seq ?_
 refine WC.region ?_
 refine WL.quiet (Qt.move rfl) rfl rfl ?_
 refine WL.quiet (Qt.neq rfl rfl) rfl rfl ?_
 refine WL.nil ?_
 refine WX.next ?_
 refine WC.no rfl ?_
 refine WC.skip ?_
 refine WX.next ?_
 refine WC.seq ?_
 refine WC.region ?_
 refine WL.quiet (Qt.loadBA 1 rfl ta25 ti25 rfl rfl) rfl rfl ?_
 refine WL.call (.u 11 rfl (.u 15 rfl (.nil))) (Cl.func cb65 rfl) (coils17W _ _ _ _) trivial rfl ?_
 rintro _ _ ⟨A_2, c_2, rfl, rfl⟩
 refine WL.quiet (Qt.move rfl) rfl rfl ?_
 refine WL.quiet (Qt.extract rfl rfl) rfl rfl ?_
 refine WL.quiet (Qt.extract rfl rfl) rfl rfl ?_
 refine WL.quiet (Qt.assign rfl) rfl rfl ?_
 refine WL.quiet (Qt.assign rfl) rfl rfl ?_
 refine WL.nil ?_
 refine WX.next ?_
 refine WC.seq ?_
 refine WC.seq ?_
 refine WC.region ?_
 refine WL.quiet (Qt.move rfl) rfl rfl ?_
 refine WL.quiet (Qt.neq rfl rfl) rfl rfl ?_
 refine WL.nil ?_
 refine WX.next ?_
 refine WC.no rfl ?_
 refine WC.skip ?_
 refine WX.next ?_
 refine WC.seq ?_
 refine WC.region ?_
 refine WL.quiet (Qt.move rfl) rfl rfl ?_
 refine WL.quiet (Qt.fieldAddrB tf60_1 rfl) rfl rfl ?_
 refine WL.quiet (Qt.loadB 7 rfl ta39 rfl rfl) rfl rfl ?_
 refine WL.quiet (Qt.lenS Tryz.underlying39 rfl) rfl rfl ?_
 refine WL.loud (.nil) (Ld.buildSlice (zs := [.int .i64 0]) Tryz.underlying85 ti3 rfl rfl (by kernel_rfl) rfl rfl) trivial rfl ?_
 rintro _ _ ⟨b_7, rfl, rfl⟩
 refine WL.loud (.take 5 rfl (.take 0 rfl (.nil))) (Ld.append1 (e := kInt) (xs := []) 0 Tryz.underlying85 ti3 rfl (by decide) (by decide) rfl rfl (by simp) (fun S w h => rfl)) trivial rfl ?_
 rintro _ _ ⟨A_3, c_3, rfl, rfl⟩
 refine WL.quiet (Qt.assign rfl) rfl rfl ?_
 refine WL.nil ?_
 refine WX.next ?_
 refine WC.seq ?_
 refine WC.region ?_
 refine WL.quiet (Qt.move rfl) rfl rfl ?_
 refine WL.quiet (Qt.fieldAddrB tf25_0 rfl) rfl rfl ?_
 refine WL.quiet (Qt.loadB 3 rfl ta9 rfl rfl) rfl rfl ?_
 refine WL.quiet (Qt.fieldAddrB tf60_1 rfl) rfl rfl ?_
 refine WL.quiet (Qt.loadB 7 rfl ta39 rfl rfl) rfl rfl ?_
 refine WL.quiet (Qt.lenS Tryz.underlying39 rfl) rfl rfl ?_
 refine WL.loud (.take 6 rfl (.nil)) (Ld.update Tryz.underlying132 Tryz.underlying9 rfl rfl rfl) trivial rfl ?_
 rintro _ _ rfl
 refine WL.nil ?_
 refine WX.next ?_
 refine WC.seq ?_
 refine WC.calm (Calm.then (Calm.inBlock (Calm.then (Calm.then (Calm.inBlock (Calm.then (calm_FQ _ _))))))) fun hC => ?_
 refine WC.draw (Γq := [mp strKey (Value.int .i64) b_4 (mset [] (⟨#[]⟩ : ByteArray) 0), row kInt 3 A_3 c_3 ([] ++ [0]), rd kIns A_2 c_2 [Ins.mk 11 1 0 0], rd kIns A_1 c_1 [Ins.mk 0 0 0 0, Ins.mk 3 0 1 0], blk b_6 25 [.string (⟨#[]⟩ : ByteArray), .slice A1 2 c1, .slice A2 1 c2, .string (⟨#[]⟩ : ByteArray)], row kIns 49 none 0 [], mp intKey Value.string b_5 [], blk b_3 60 [.int .i64 2, .int .i64 1, .int .i64 0, .int .i64 0, .slice none 0 0], blk b_2 60 [.int .i64 0, .int .i64 0, .int .i64 0, .int .i64 0, .slice none 0 0], blk b_1 66 [.int .i64 2, .int .i64 1, .int .i64 0, .slice (some p) 1 1], cellsAt p [.string (⟨#[]⟩ : ByteArray), .slice A1 2 c1, .slice A2 1 c2, .string (⟨#[]⟩ : ByteArray)], rd kContact A1 c1 ex17, rd kCoil A2 c2 co17, cellsAt ⟨0, 0, none⟩ (loadsT.map (Value.int .i64)), cellsAt ⟨1, 0, none⟩ (joinsT.map (Value.int .i64)), cellsAt ⟨2, 0, none⟩ (popsT.map (Value.int .i64)), cellsAt (⟨3, 0, none⟩ : Addr) [.int .i64 11, .int .i64 12, .int .i64 13, .int .i64 14]]) [0, 1, 2, 3, 4, 5] mixed ?_
 refine WA.named (.take 0 rfl (.take 0 rfl (.u 0 rfl (.u 1 rfl (.take 2 rfl (.take 2 rfl (.take 2 rfl (.take 2 rfl (.take 2 rfl (.take 2 rfl (.u 2 rfl (.u 3 rfl (.u 4 rfl (.u 5 rfl (.u 6 rfl (.u 7 rfl (.u 8 rfl (.nil)))))))))))))))))) fun sl_1 => ?_
 refine WA.tk 0 (by kernel_rfl) rfl hC (Qt.fieldAddrB tf60_0 rfl) trivial rfl sl_1 ?_
 refine WA.tk 1 (by kernel_rfl) rfl hC (Qt.fieldAddrB tf58_3 rfl) trivial rfl sl_1 ?_
 refine WA.tk 2 (by kernel_rfl) rfl hC (Qt.loadB 7 rfl ta3 rfl rfl) trivial rfl sl_1 ?_
 refine WA.tk 3 (by kernel_rfl) rfl hC (Qt.loadBA 4 rfl ta25 ti25 rfl rfl) trivial rfl sl_1 ?_
 refine WA.one 4 (by kernel_rfl) ?_
 refine WO.call rfl (.u 11 rfl (.nil)) (Cl.func cb66 rfl) (edgeCount17W _ _ _ _) trivial rfl (by rintro _ _ ⟨rfl, rfl⟩; exact ⟨_, (.take 0 rfl (.take 0 rfl (.u 0 rfl (.u 1 rfl (.take 2 rfl (.take 2 rfl (.take 2 rfl (.take 2 rfl (.take 2 rfl (.take 2 rfl (.u 2 rfl (.u 3 rfl (.u 4 rfl (.u 5 rfl (.u 6 rfl (.u 7 rfl (.u 8 rfl (.nil))))))))))))))))))⟩) ?_
 rintro _ _ ⟨rfl, rfl⟩
 refine WA.tk 5 (by kernel_rfl) rfl hC (Qt.to (v' := .int .i64 0) (Qt.add rfl rfl (by decide)) rfl) trivial rfl sl_1 ?_
 refine WA.phase (K' := [0, 1, 2, 3, 4, 5, 6, 7, 8]) (Γq' := [mp strKey (Value.int .i64) b_4 (mset [] (⟨#[]⟩ : ByteArray) 0), row kInt 3 A_3 c_3 ([] ++ [0]), rd kIns A_2 c_2 [Ins.mk 11 1 0 0], rd kIns A_1 c_1 [Ins.mk 0 0 0 0, Ins.mk 3 0 1 0], blk b_6 25 [.string (⟨#[]⟩ : ByteArray), .slice A1 2 c1, .slice A2 1 c2, .string (⟨#[]⟩ : ByteArray)], row kIns 49 none 0 [], mp intKey Value.string b_5 [], blk b_2 60 [.int .i64 0, .int .i64 0, .int .i64 0, .int .i64 0, .slice none 0 0], blk b_1 66 [.int .i64 2, .int .i64 1, .int .i64 0, .slice (some p) 1 1], cellsAt p [.string (⟨#[]⟩ : ByteArray), .slice A1 2 c1, .slice A2 1 c2, .string (⟨#[]⟩ : ByteArray)], rd kContact A1 c1 ex17, rd kCoil A2 c2 co17, cellsAt ⟨0, 0, none⟩ (loadsT.map (Value.int .i64)), cellsAt ⟨1, 0, none⟩ (joinsT.map (Value.int .i64)), cellsAt ⟨2, 0, none⟩ (popsT.map (Value.int .i64)), cellsAt (⟨3, 0, none⟩ : Addr) [.int .i64 11, .int .i64 12, .int .i64 13, .int .i64 14]]) (by kernel_rfl) ?_
 refine WA.named (.take 0 rfl (.take 0 rfl (.u 0 rfl (.u 1 rfl (.take 2 rfl (.take 2 rfl (.take 2 rfl (.take 3 rfl (.take 3 rfl (.u 3 rfl (.u 4 rfl (.u 5 rfl (.u 6 rfl (.u 7 rfl (.u 8 rfl (.u 9 rfl (.nil))))))))))))))))) fun sl_2 => ?_
 refine WA.tk 6 (by kernel_rfl) rfl hC (Qt.fieldAddrB tf60_0 rfl) trivial rfl sl_2 ?_
 refine WA.tk 7 (by kernel_rfl) rfl hC (Qt.fieldAddrB tf58_3 rfl) trivial rfl sl_2 ?_
 refine WA.one 8 (by kernel_rfl) ?_
 refine WO.loud rfl (.take 7 rfl (.nil)) (Ld.store ti3 rfl rfl rfl rfl rfl rfl) trivial rfl (by rintro _ _ rfl; exact ⟨_, (.take 1 rfl (.take 1 rfl (.u 1 rfl (.u 2 rfl (.take 3 rfl (.take 3 rfl (.take 3 rfl (.take 3 rfl (.take 3 rfl (.u 3 rfl (.u 4 rfl (.u 5 rfl (.u 6 rfl (.u 7 rfl (.u 8 rfl (.u 9 rfl (.nil)))))))))))))))))⟩) ?_
 rintro _ _ rfl
 refine WA.done (by kernel_rfl) ?_
 refine WX.next ?_
 refine WC.seq ?_
 refine WC.region ?_
 refine WL.quiet (Qt.fieldAddrB tf60_1 rfl) rfl rfl ?_
 refine WL.quiet (Qt.loadB 0 rfl ta39 rfl rfl) rfl rfl ?_
 refine WL.quiet (Qt.move rfl) rfl rfl ?_
 refine WL.loud (.take 6 rfl (.u 4 rfl (.nil))) (Ld.appendRd (e := kIns) (xs := []) (ys := [Ins.mk 0 0 0 0, Ins.mk 3 0 1 0]) Tryz.underlying39 ti49 rfl (by decide) (by decide) rfl rfl (by simp)) trivial rfl ?_
 rintro _ _ ⟨A_4, c_4, rfl, rfl⟩
 refine WL.quiet (Qt.move rfl) rfl rfl ?_
 refine WL.loud (.take 0 rfl (.u 3 rfl (.nil))) (Ld.appendRd (e := kIns) (xs := ([] ++ [Ins.mk 0 0 0 0, Ins.mk 3 0 1 0])) (ys := [Ins.mk 11 1 0 0]) Tryz.underlying39 ti49 rfl (by decide) (by decide) rfl rfl (by simp)) trivial rfl ?_
 rintro _ _ ⟨A_5, c_5, rfl, rfl⟩
 refine WL.quiet (Qt.fieldAddrB tf60_1 rfl) rfl rfl ?_
 refine WL.loud (.take 1 rfl (.nil)) (Ld.store ti39 rfl rfl rfl rfl rfl rfl) trivial rfl ?_
 rintro _ _ rfl
 refine WL.nil ?_
 refine WX.next ?_
 refine WC.seq ?_
 refine WC.region ?_
 refine WL.quiet (Qt.fieldAddrB tf25_3 rfl) rfl rfl ?_
 refine WL.quiet (Qt.loadB 6 rfl ta9 rfl rfl) rfl rfl ?_
 refine WL.quiet (Qt.to (Qt.sneq rfl rfl) (congrArg Value.bool (decide_eq_false (fun h => h rfl)))) rfl rfl ?_
 refine WL.nil ?_
 refine WX.next ?_
 refine WC.no rfl ?_
 refine WC.skip ?_
 refine WX.block_end ?_
 refine WX.next ?_
 refine WC.region ?_
 refine WL.quiet (Qt.to (v' := .int .i64 1) (Qt.add rfl rfl (by decide)) rfl) rfl rfl ?_
 refine WL.quiet (Qt.move rfl) rfl rfl ?_
 refine WL.nil ?_
 refine WX.again ?_
 refine WR.one ?_
 refine WC.seq ?_
 refine WC.region ?_
 refine WL.quiet (Qt.lss rfl rfl) rfl rfl ?_
 refine WL.nil ?_
 refine WX.next ?_
 refine WC.seq ?_
 refine WC.no rfl ?_
 refine WC.exit ?_
 refine WX.pass_exit ?_
 refine WX.pass_exit ?_
 refine WX.block_exit ?_
 refine WX.next ?_
 refine WC.seq ?_
 refine WC.seq ?_
 refine WC.region ?_
 refine WL.quiet (Qt.move rfl) rfl rfl ?_
 refine WL.loud (.take 7 rfl (.nil)) (Ld.rangeMap Tryz.underlying133 rfl) trivial rfl ?_
 rintro _ _ ⟨b_8, rfl, rfl⟩
 refine WL.nil ?_
 refine WX.next ?_
 refine WC.block ?_
 refine WC.unroll 1 ?_
 refine WR.one ?_
 refine WC.seq ?_
 refine WC.region ?_
 refine WL.loud (.take 0 rfl (.take 0 rfl (.nil))) (Ld.nextMapEnd rfl) trivial rfl ?_
 rintro _ _ ⟨rfl, rfl⟩
 refine WL.quiet (Qt.extract rfl rfl) rfl rfl ?_
 refine WL.nil ?_
 refine WX.next ?_
 refine WC.seq ?_
 refine WC.no rfl ?_
 refine WC.exit ?_
 refine WX.pass_exit ?_
 refine WX.pass_exit ?_
 refine WX.block_exit ?_
 refine WX.next ?_
 refine WC.seq ?_
 refine WC.region ?_
 refine WL.quiet (Qt.move rfl) rfl rfl ?_
 refine WL.quiet (Qt.fieldAddrB tf60_1 rfl) rfl rfl ?_
 refine WL.quiet (Qt.loadB 2 rfl ta39 rfl rfl) rfl rfl ?_
 refine WL.quiet (Qt.to (Qt.lenS Tryz.underlying39 rfl) (rfl : _ = Value.int .i64 3)) rfl rfl ?_
 refine WL.loud (.nil) (Ld.buildSlice (zs := [.int .i64 0]) Tryz.underlying85 ti3 rfl rfl (by kernel_rfl) rfl rfl) trivial rfl ?_
 rintro _ _ ⟨b_9, rfl, rfl⟩
 refine WL.loud (.take 6 rfl (.take 0 rfl (.nil))) (Ld.append1 (e := kInt) (xs := ([] ++ [0])) 3 Tryz.underlying85 ti3 rfl (by decide) (by decide) rfl rfl (by simp) (fun S w h => rfl)) trivial rfl ?_
 rintro _ _ ⟨A_6, c_6, rfl, rfl⟩
 refine WL.quiet (Qt.assign rfl) rfl rfl ?_
 refine WL.nil ?_
 refine WX.next ?_
 refine WC.seq ?_
 refine WC.region ?_
 refine WL.quiet (Qt.fieldAddrB tf60_1 rfl) rfl rfl ?_
 refine WL.quiet (Qt.loadB 3 rfl ta39 rfl rfl) rfl rfl ?_
 refine WL.quiet (Qt.build tp49 ti49 rfl rfl rfl) rfl rfl ?_
 refine WL.loud (.nil) (Ld.buildSlice (zs := [.int .i64 0, .int .i64 0, .int .i64 0, .int .i64 0]) Tryz.underlying39 ti49 rfl rfl (by kernel_rfl) rfl rfl) trivial rfl ?_
 rintro _ _ ⟨b_10, rfl, rfl⟩
 refine WL.loud (.take 5 rfl (.take 0 rfl (.nil))) (Ld.append1 (e := kIns) (xs := ([] ++ [Ins.mk 0 0 0 0, Ins.mk 3 0 1 0] ++ [Ins.mk 11 1 0 0])) (Ins.mk 16 0 0 0) Tryz.underlying39 ti49 rfl (by decide) (by decide) rfl rfl (by simp) (fun S w h => rfl)) trivial rfl ?_
 rintro _ _ ⟨A_7, c_7, rfl, rfl⟩
 refine WL.quiet (Qt.fieldAddrB tf60_1 rfl) rfl rfl ?_
 refine WL.loud (.take 4 rfl (.nil)) (Ld.store ti39 rfl rfl rfl rfl rfl rfl) trivial rfl ?_
 rintro _ _ rfl
 refine WL.nil ?_
 refine WX.next ?_
 refine WC.seq ?_
 refine WC.calm (Calm.then (calm_FQ _ _)) fun hC => ?_
 refine WC.draw (Γq := [blk b_3 60 [.int .i64 2, .int .i64 1, .int .i64 0, .int .i64 0, .slice A_7 (([] ++ [Ins.mk 0 0 0 0, Ins.mk 3 0 1 0] ++ [Ins.mk 11 1 0 0] ++ [(Ins.mk 16 0 0 0)]).length) c_7], row kIns 49 A_7 c_7 ([] ++ [Ins.mk 0 0 0 0, Ins.mk 3 0 1 0] ++ [Ins.mk 11 1 0 0] ++ [(Ins.mk 16 0 0 0)]), row kInt 3 A_6 c_6 ([] ++ [0] ++ [3]), mp intKey Value.string b_5 [], objF b_8 (mapIt b_5), mp strKey (Value.int .i64) b_4 (mset [] (⟨#[]⟩ : ByteArray) 0), rd kIns A_2 c_2 [Ins.mk 11 1 0 0], rd kIns A_1 c_1 [Ins.mk 0 0 0 0, Ins.mk 3 0 1 0], blk b_6 25 [.string (⟨#[]⟩ : ByteArray), .slice A1 2 c1, .slice A2 1 c2, .string (⟨#[]⟩ : ByteArray)], blk b_1 66 [.int .i64 2, .int .i64 1, .int .i64 0, .slice (some p) 1 1], cellsAt p [.string (⟨#[]⟩ : ByteArray), .slice A1 2 c1, .slice A2 1 c2, .string (⟨#[]⟩ : ByteArray)], rd kContact A1 c1 ex17, rd kCoil A2 c2 co17, cellsAt ⟨0, 0, none⟩ (loadsT.map (Value.int .i64)), cellsAt ⟨1, 0, none⟩ (joinsT.map (Value.int .i64)), cellsAt ⟨2, 0, none⟩ (popsT.map (Value.int .i64)), cellsAt (⟨3, 0, none⟩ : Addr) [.int .i64 11, .int .i64 12, .int .i64 13, .int .i64 14]]) [0, 1, 2, 3, 4, 5, 6] mixed ?_
 refine WA.named (.take 0 rfl (.take 0 rfl (.take 0 rfl (.take 0 rfl (.take 0 rfl (.take 0 rfl (.u 0 rfl (.u 1 rfl (.take 2 rfl (.take 3 rfl (.u 3 rfl (.u 4 rfl (.u 5 rfl (.u 6 rfl (.u 7 rfl (.u 8 rfl (.u 9 rfl (.nil)))))))))))))))))) fun sl_3 => ?_
 refine WA.tk 0 (by kernel_rfl) rfl hC (Qt.loadBA 0 rfl ta60 ti60 rfl rfl) trivial rfl sl_3 ?_
 refine WA.tk 1 (by kernel_rfl) rfl hC (Qt.move rfl) trivial rfl sl_3 ?_
 refine WA.tk 2 (by kernel_rfl) rfl hC (Qt.fieldAddrB tf66_3 rfl) trivial rfl sl_3 ?_
 refine WA.tk 3 (by kernel_rfl) rfl hC (Qt.loadB 9 rfl ta64 rfl rfl) trivial rfl sl_3 ?_
 refine WA.tk 4 (by kernel_rfl) rfl hC (Qt.lenS Tryz.underlying64 rfl) trivial rfl sl_3 ?_
 refine WA.one 5 (by kernel_rfl) ?_
 refine WO.loud rfl (.take 9 rfl (.nil)) (Ld.store ti60 rfl rfl rfl rfl rfl rfl) trivial rfl (by rintro _ _ rfl; exact ⟨_, (.take 1 rfl (.take 1 rfl (.take 1 rfl (.take 1 rfl (.take 1 rfl (.take 1 rfl (.u 1 rfl (.u 2 rfl (.take 3 rfl (.take 3 rfl (.u 3 rfl (.u 4 rfl (.u 5 rfl (.u 6 rfl (.u 7 rfl (.u 8 rfl (.u 9 rfl (.nil))))))))))))))))))⟩) ?_
 rintro _ _ rfl
 refine WA.named (.take 1 rfl (.take 1 rfl (.take 1 rfl (.take 1 rfl (.take 1 rfl (.take 1 rfl (.u 1 rfl (.u 2 rfl (.take 3 rfl (.take 3 rfl (.u 3 rfl (.u 4 rfl (.u 5 rfl (.u 6 rfl (.u 7 rfl (.u 8 rfl (.u 9 rfl (.nil)))))))))))))))))) fun sl_4 => ?_
 refine WA.tk 6 (by kernel_rfl) rfl hC (Qt.assign rfl) trivial rfl sl_4 ?_
 refine WA.phase (K' := [0, 1, 2, 3, 4, 5, 6, 7]) (Γq' := [blk b_2 60 [.int .i64 2, .int .i64 1, .int .i64 0, .int .i64 0, .slice A_7 (([] ++ [Ins.mk 0 0 0 0, Ins.mk 3 0 1 0] ++ [Ins.mk 11 1 0 0] ++ [(Ins.mk 16 0 0 0)]).length) c_7], blk b_3 60 [.int .i64 2, .int .i64 1, .int .i64 0, .int .i64 0, .slice A_7 (([] ++ [Ins.mk 0 0 0 0, Ins.mk 3 0 1 0] ++ [Ins.mk 11 1 0 0] ++ [(Ins.mk 16 0 0 0)]).length) c_7], row kIns 49 A_7 c_7 ([] ++ [Ins.mk 0 0 0 0, Ins.mk 3 0 1 0] ++ [Ins.mk 11 1 0 0] ++ [(Ins.mk 16 0 0 0)]), row kInt 3 A_6 c_6 ([] ++ [0] ++ [3]), mp intKey Value.string b_5 [], objF b_8 (mapIt b_5), mp strKey (Value.int .i64) b_4 (mset [] (⟨#[]⟩ : ByteArray) 0), rd kIns A_2 c_2 [Ins.mk 11 1 0 0], rd kIns A_1 c_1 [Ins.mk 0 0 0 0, Ins.mk 3 0 1 0], blk b_6 25 [.string (⟨#[]⟩ : ByteArray), .slice A1 2 c1, .slice A2 1 c2, .string (⟨#[]⟩ : ByteArray)], blk b_1 66 [.int .i64 2, .int .i64 1, .int .i64 0, .slice (some p) 1 1], cellsAt p [.string (⟨#[]⟩ : ByteArray), .slice A1 2 c1, .slice A2 1 c2, .string (⟨#[]⟩ : ByteArray)], rd kContact A1 c1 ex17, rd kCoil A2 c2 co17, cellsAt ⟨0, 0, none⟩ (loadsT.map (Value.int .i64)), cellsAt ⟨1, 0, none⟩ (joinsT.map (Value.int .i64)), cellsAt ⟨2, 0, none⟩ (popsT.map (Value.int .i64)), cellsAt (⟨3, 0, none⟩ : Addr) [.int .i64 11, .int .i64 12, .int .i64 13, .int .i64 14]]) (by kernel_rfl) ?_
 refine WA.named (.take 0 rfl (.take 0 rfl (.take 0 rfl (.take 0 rfl (.take 0 rfl (.take 0 rfl (.take 0 rfl (.u 0 rfl (.u 1 rfl (.take 2 rfl (.take 2 rfl (.u 2 rfl (.u 3 rfl (.u 4 rfl (.u 5 rfl (.u 6 rfl (.u 7 rfl (.u 8 rfl (.nil))))))))))))))))))) fun sl_5 => ?_
 refine WA.tk 7 (by kernel_rfl) rfl hC (Qt.assign rfl) trivial rfl sl_5 ?_
 refine WA.phase (K' := [0, 1, 2, 3, 4, 5, 6, 7, 8]) (Γq' := [blk b_2 60 [.int .i64 2, .int .i64 1, .int .i64 0, .int .i64 0, .slice A_7 (([] ++ [Ins.mk 0 0 0 0, Ins.mk 3 0 1 0] ++ [Ins.mk 11 1 0 0] ++ [(Ins.mk 16 0 0 0)]).length) c_7], blk b_3 60 [.int .i64 2, .int .i64 1, .int .i64 0, .int .i64 0, .slice A_7 (([] ++ [Ins.mk 0 0 0 0, Ins.mk 3 0 1 0] ++ [Ins.mk 11 1 0 0] ++ [(Ins.mk 16 0 0 0)]).length) c_7], row kIns 49 A_7 c_7 ([] ++ [Ins.mk 0 0 0 0, Ins.mk 3 0 1 0] ++ [Ins.mk 11 1 0 0] ++ [(Ins.mk 16 0 0 0)]), row kInt 3 A_6 c_6 ([] ++ [0] ++ [3]), mp intKey Value.string b_5 [], objF b_8 (mapIt b_5), mp strKey (Value.int .i64) b_4 (mset [] (⟨#[]⟩ : ByteArray) 0), rd kIns A_2 c_2 [Ins.mk 11 1 0 0], rd kIns A_1 c_1 [Ins.mk 0 0 0 0, Ins.mk 3 0 1 0], blk b_6 25 [.string (⟨#[]⟩ : ByteArray), .slice A1 2 c1, .slice A2 1 c2, .string (⟨#[]⟩ : ByteArray)], blk b_1 66 [.int .i64 2, .int .i64 1, .int .i64 0, .slice (some p) 1 1], cellsAt p [.string (⟨#[]⟩ : ByteArray), .slice A1 2 c1, .slice A2 1 c2, .string (⟨#[]⟩ : ByteArray)], rd kContact A1 c1 ex17, rd kCoil A2 c2 co17, cellsAt ⟨0, 0, none⟩ (loadsT.map (Value.int .i64)), cellsAt ⟨1, 0, none⟩ (joinsT.map (Value.int .i64)), cellsAt ⟨2, 0, none⟩ (popsT.map (Value.int .i64)), cellsAt (⟨3, 0, none⟩ : Addr) [.int .i64 11, .int .i64 12, .int .i64 13, .int .i64 14]]) (by kernel_rfl) ?_
 refine WA.tk 8 (by kernel_rfl) rfl hC (Qt.assign rfl) trivial rfl sl_5 ?_
 refine WA.done (by kernel_rfl) ?_
 refine WX.next ?_
 refine WC.ret ?_
 refine WX.turn (.take 2 rfl (.nil)) (freeze_row) ?_
 rintro _ rfl
 refine WX.retC3 1 (.u 0 rfl (.nil)) rfl rfl rfl rfl rfl rfl ta60 ti60 rfl ?_
 exact ⟨A_7, c_7, A_6, _, c_6, rfl, rfl⟩

end Go.Proofs.YtolggjmgfijjfaaGreatDoor.Sep

/- A walk, printed by gen.py out of hints. -/
namespace Go.Proofs.YtolggjmgfijjfaaGreatDoor.Sep
open Go
variable {μ : Prop}
theorem ladder17W (p : Addr) (A1 A2 : Option Addr) (c1 c2 : Nat)  : Spec μ Tryz.prog 16 #[.agg [.int .i64 2, .int .i64 1, .int .i64 0, .slice (some p) 1 1].toArray] [cellsAt p [.string (⟨#[]⟩ : ByteArray), .slice A1 2 c1, .slice A2 1 c2, .string (⟨#[]⟩ : ByteArray)], rd kContact A1 c1 ex17, rd kCoil A2 c2 co17, cellsAt ⟨0, 0, none⟩ (loadsT.map (Value.int .i64)), cellsAt ⟨1, 0, none⟩ (joinsT.map (Value.int .i64)), cellsAt ⟨2, 0, none⟩ (popsT.map (Value.int .i64)), cellsAt (⟨3, 0, none⟩ : Addr) [.int .i64 11, .int .i64 12, .int .i64 13, .int .i64 14]] fun v Δ => ∃ A c, v = .tuple #[.agg [.int .i64 2, .int .i64 1, .int .i64 0, .int .i64 0, .slice A 4 c].toArray, .int .i64 1, .int .i64 0] ∧ Δ = [rd kIns A c [Ins.mk 0 0 0 0, Ins.mk 3 0 1 0, Ins.mk 11 1 0 0, Ins.mk 16 0 0 0]] := by
 refine Spec.of_body (n := 19) Tryz.func16 rfl rfl rfl fun w0 S0 O0 => ?_
 show WC _ _ _ _ _ _ [(0, .agg [.int .i64 2, .int .i64 1, .int .i64 0, .slice (some p) 1 1].toArray)] [cellsAt p [.string (⟨#[]⟩ : ByteArray), .slice A1 2 c1, .slice A2 1 c2, .string (⟨#[]⟩ : ByteArray)], rd kContact A1 c1 ex17, rd kCoil A2 c2 co17, cellsAt ⟨0, 0, none⟩ (loadsT.map (Value.int .i64)), cellsAt ⟨1, 0, none⟩ (joinsT.map (Value.int .i64)), cellsAt ⟨2, 0, none⟩ (popsT.map (Value.int .i64)), cellsAt (⟨3, 0, none⟩ : Addr) [.int .i64 11, .int .i64 12, .int .i64 13, .int .i64 14]]
 refine WC.seq ?_
 refine WC.region ?_
 refine WL.loud (.nil) (Ld.box rfl rfl) trivial rfl ?_
 rintro _ _ ⟨b_1, rfl, rfl⟩
 refine WL.loud (.nil) (Ld.alloc ti60 rfl) trivial rfl ?_
 rintro _ _ ⟨b_2, rfl, rfl⟩
 refine WL.quiet (Qt.assign rfl) rfl rfl ?_
 refine WL.quiet (Qt.assign rfl) rfl rfl ?_
 refine WL.nil ?_
 refine WX.next ?_
 refine WC.seq ?_
 refine WC.region ?_
 refine WL.quiet (Qt.loadBA 1 rfl ta66 ti66 rfl rfl) rfl rfl ?_
 refine WL.call (.u 2 rfl (.u 3 rfl (.u 4 rfl (.u 5 rfl (.u 6 rfl (.u 7 rfl (.u 8 rfl (.nil)))))))) (Cl.func cb38 rfl) (whole17W _ _ _ _ _) trivial rfl ?_
 rintro _ _ ⟨A_1, c_1, B_1, c_2, c_3, rfl, rfl⟩
 refine WL.quiet (Qt.move rfl) rfl rfl ?_
 refine WL.quiet (Qt.extract rfl rfl) rfl rfl ?_
 refine WL.quiet (Qt.extract rfl rfl) rfl rfl ?_
 refine WL.quiet (Qt.extract rfl rfl) rfl rfl ?_
 refine WL.quiet (Qt.extract rfl rfl) rfl rfl ?_
 refine WL.loud (.nil) (Ld.alloc ti60 rfl) trivial rfl ?_
 rintro _ _ ⟨b_3, rfl, rfl⟩
 refine WL.loud (.take 0 rfl (.nil)) (Ld.store ti60 rfl rfl rfl rfl rfl rfl) trivial rfl ?_
 rintro _ _ rfl
 refine WL.quiet (Qt.assign rfl) rfl rfl ?_
 refine WL.quiet (Qt.assign rfl) rfl rfl ?_
 refine WL.quiet (Qt.assign rfl) rfl rfl ?_
 refine WL.nil ?_
 refine WX.next ?_
 refine WC.seq ?_
 refine WC.region ?_
 refine WL.quiet (Qt.loadBA 0 rfl ta60 ti60 rfl rfl) rfl rfl ?_
 refine WL.quiet (Qt.move rfl) rfl rfl ?_
 refine WL.quiet (Qt.move rfl) rfl rfl ?_
 refine WL.loud (.take 2 rfl (.nil)) (Ld.store ti60 rfl rfl rfl rfl rfl rfl) trivial rfl ?_
 rintro _ _ rfl
 refine WL.quiet (Qt.assign rfl) rfl rfl ?_
 refine WL.quiet (Qt.assign rfl) rfl rfl ?_
 refine WL.nil ?_
 refine WX.next ?_
 refine WC.ret ?_
 refine WX.retC2 0 (.u 2 rfl (.nil)) rfl rfl rfl rfl rfl ta60 ti60 rfl ?_
 exact ⟨A_1, c_1, rfl, rfl⟩

end Go.Proofs.YtolggjmgfijjfaaGreatDoor.Sep

/- A walk, printed by gen.py out of hints. -/
namespace Go.Proofs.YtolggjmgfijjfaaGreatDoor.Sep
open Go
variable {μ : Prop}
theorem equalInsW (xs : List Ins) (A B : Option Addr) (c d : Nat)  : Spec μ Tryz.prog 18 #[.slice A xs.length c, .slice B xs.length d] [rd kIns A c xs, rd kIns B d xs] fun v Δ => v = .bool true ∧ Δ = [] := by
 refine Spec.of_body (n := 26) Tryz.func18 rfl rfl rfl fun w0 S0 O0 => ?_
 show WC _ _ _ _ _ _ [(0, .slice A xs.length c), (1, .slice B xs.length d)] [rd kIns A c xs, rd kIns B d xs]
 refine WC.learn (Z := Unit) (Δ := fun _ => []) (φ := fun _ => xs.length ≤ c ∧ c ≤ 9223372036854775807) 0 rfl (fun S w h => ⟨(), rd_bounds h, nofacts⟩) ?_
 rintro _ ⟨hb_1, hb_2⟩
 refine WC.learn (Z := Unit) (Δ := fun _ => []) (φ := fun _ => xs.length ≤ d ∧ d ≤ 9223372036854775807) 1 rfl (fun S w h => ⟨(), rd_bounds h, nofacts⟩) ?_
 rintro _ ⟨hb_3, hb_4⟩
 refine WC.seq ?_
 refine WC.region ?_
 refine WL.quiet (Qt.assign rfl) rfl rfl ?_
 refine WL.nil ?_
 refine WX.next ?_
 refine WC.seq ?_
 refine WC.seq ?_
 refine WC.region ?_
 refine WL.quiet (Qt.move rfl) rfl rfl ?_
 refine WL.quiet (Qt.lenS Tryz.underlying39 rfl) rfl rfl ?_
 refine WL.quiet (Qt.move rfl) rfl rfl ?_
 refine WL.quiet (Qt.lenS Tryz.underlying39 rfl) rfl rfl ?_
 refine WL.quiet (Qt.neq rfl rfl) rfl rfl ?_
 refine WL.nil ?_
 refine WX.next ?_
 refine WC.condD rfl (fun hc_1 => ?_) (fun hc_1 => ?_)
 ·
  exact absurd rfl hc_1
 ·
  refine WC.skip ?_
  refine WX.next ?_
  refine WC.seq ?_
  refine WC.seq ?_
  refine WC.region ?_
  refine WL.quiet (Qt.move rfl) rfl rfl ?_
  refine WL.quiet (Qt.lenS Tryz.underlying39 rfl) rfl rfl ?_
  refine WL.quiet (Qt.move rfl) rfl rfl ?_
  refine WL.nil ?_
  refine WX.next ?_
  refine WC.block ?_
  refine WC.loop (fun w0 : Nat => [(0, .slice A xs.length c), (1, .slice B xs.length d), (4, .bool false), (12, .int .i64 ((xs.length : Nat) : Int)), (13, .int .i64 ((w0 : Nat) : Int))]) (fun w0 => [rd kIns A c xs, rd kIns B d xs]) (fun w0 => w0 ≤ xs.length) (fun w0 => xs.length - w0) 0 (Nat.zero_le _) ⟨rfl, rfl, rfl, rfl, rfl, trivial⟩ (.u 0 rfl (.u 1 rfl (.nil))) ?_
  rintro k hk
  try dsimp only at hk
  show WC _ _ _ _ _ _ [(0, .slice A xs.length c), (1, .slice B xs.length d), (4, .bool false), (12, .int .i64 ((xs.length : Nat) : Int)), (13, .int .i64 ((k : Nat) : Int))] [rd kIns A c xs, rd kIns B d xs]
  refine WC.seq ?_
  refine WC.region ?_
  refine WL.quiet (Qt.lss rfl rfl) rfl rfl ?_
  refine WL.nil ?_
  refine WX.next ?_
  refine WC.seq ?_
  refine WC.condD rfl (fun hc_2 => ?_) (fun hc_2 => ?_)
  ·
   refine WC.skip ?_
   refine WX.next ?_
   refine WC.seq ?_
   refine WC.block ?_
   refine WC.seq ?_
   refine WC.region ?_
   refine WL.quiet (Qt.move rfl) rfl rfl ?_
   refine WL.quiet (Qt.assign rfl) rfl rfl ?_
   refine WL.nil ?_
   refine WX.next ?_
   refine WC.seq ?_
   have hj_1 : k < xs.length := by omega
   refine WC.learn 0 rfl (rd_at k hj_1 (vIns _)) ?_
   rintro ⟨p_1, ⟨⟩⟩ hA_1
   have hj_2 : k < xs.length := by omega
   refine WC.learn 2 rfl (rd_at k hj_2 (vIns _)) ?_
   rintro ⟨p_2, ⟨⟩⟩ hA_2
   refine WC.calm (Calm.then (Calm.inBlock (Calm.then (Calm.then (Calm.inBlock (Calm.then (calm_FQ _ _))))))) fun hC => ?_
   refine WC.draw (Γq := [cellsAt (p_2.add (k * 4)) [.int .i64 (xs[k].op), .int .i64 (xs[k].sp), .int .i64 (xs[k].n), .int .i64 (xs[k].arg)], cellsAt (p_1.add (k * 4)) [.int .i64 (xs[k].op), .int .i64 (xs[k].sp), .int .i64 (xs[k].n), .int .i64 (xs[k].arg)], rd kIns A c xs, rd kIns B d xs]) [0, 1, 2, 3, 4, 5, 6, 7, 8] mixed ?_
   refine WA.named (.u 0 rfl (.u 1 rfl (.u 2 rfl (.u 3 rfl (.nil))))) fun sl_1 => ?_
   refine WA.tk 0 (by kernel_rfl) rfl hC (Qt.move rfl) trivial rfl sl_1 ?_
   refine WA.tk 1 (by kernel_rfl) rfl hC (Qt.move rfl) trivial rfl sl_1 ?_
   refine WA.tk 2 (by kernel_rfl) rfl hC (Qt.indexAddrE k hA_1 Tryz.underlying39 ti49 rfl rfl (by first | assumption | omega)) trivial rfl sl_1 ?_
   refine WA.tk 3 (by kernel_rfl) rfl hC (Qt.loadCA (p := p_1.add (k * 4)) (o := 0) 1 rfl ta49 ti49 rfl rfl) trivial rfl sl_1 ?_
   refine WA.tk 4 (by kernel_rfl) rfl hC (Qt.move rfl) trivial rfl sl_1 ?_
   refine WA.tk 5 (by kernel_rfl) rfl hC (Qt.move rfl) trivial rfl sl_1 ?_
   refine WA.tk 6 (by kernel_rfl) rfl hC (Qt.indexAddrE k hA_2 Tryz.underlying39 ti49 rfl rfl (by first | assumption | omega)) trivial rfl sl_1 ?_
   refine WA.tk 7 (by kernel_rfl) rfl hC (Qt.loadCA (p := p_2.add (k * 4)) (o := 0) 0 rfl ta49 ti49 rfl rfl) trivial rfl sl_1 ?_
   refine WA.tk 8 (by kernel_rfl) rfl hC (Qt.insNeqSelf ie49 rfl rfl) trivial rfl sl_1 ?_
   refine WA.done (by kernel_rfl) ?_
   refine WX.next ?_
   refine WC.no rfl ?_
   refine WC.skip ?_
   refine WX.block_end ?_
   refine WX.next ?_
   refine WC.region ?_
   refine WL.quiet (Qt.add rfl rfl (by omega)) rfl rfl ?_
   refine WL.quiet (Qt.move rfl) rfl rfl ?_
   refine WL.nil ?_
   exact WX.back (k + 1) (by omega) (by first | omega | (dsimp only; omega) | (simp; omega)) ⟨rfl, rfl, rfl, rfl, rfl, trivial⟩ (.u 2 rfl (.u 3 rfl (.nil)))
  ·
   refine WC.exit ?_
   refine WX.pass_exit ?_
   refine WX.pass_exit ?_
   refine WX.block_exit ?_
   refine WX.next ?_
   refine WC.seq ?_
   refine WC.region ?_
   refine WL.quiet (Qt.assign rfl) rfl rfl ?_
   refine WL.nil ?_
   refine WX.next ?_
   refine WC.ret ?_
   refine WX.ret1 (.nil) rfl rfl ?_
   exact ⟨rfl, rfl⟩

end Go.Proofs.YtolggjmgfijjfaaGreatDoor.Sep

/- A walk, printed by gen.py out of hints. -/
namespace Go.Proofs.YtolggjmgfijjfaaGreatDoor.Sep
open Go
variable {μ : Prop}
theorem alive17W   : Spec μ Tryz.prog 5 #[] [cellsAt ⟨0, 0, none⟩ (loadsT.map (Value.int .i64)), cellsAt ⟨1, 0, none⟩ (joinsT.map (Value.int .i64)), cellsAt ⟨2, 0, none⟩ (popsT.map (Value.int .i64)), cellsAt (⟨3, 0, none⟩ : Addr) [.int .i64 11, .int .i64 12, .int .i64 13, .int .i64 14]] fun v Δ => v = .bool true ∧ Δ = [] := by
 refine Spec.of_body (n := 30) Tryz.func5 rfl rfl rfl fun w0 S0 O0 => ?_
 show WC _ _ _ _ _ _ [] [cellsAt ⟨0, 0, none⟩ (loadsT.map (Value.int .i64)), cellsAt ⟨1, 0, none⟩ (joinsT.map (Value.int .i64)), cellsAt ⟨2, 0, none⟩ (popsT.map (Value.int .i64)), cellsAt (⟨3, 0, none⟩ : Addr) [.int .i64 11, .int .i64 12, .int .i64 13, .int .i64 14]]
 refine WC.seq ?_
 refine WC.region ?_
 refine WL.quiet (Qt.assign rfl) rfl rfl ?_
 refine WL.nil ?_
 refine WX.next ?_
 refine WC.seq ?_
 refine WC.region ?_
 refine WL.call (.nil) (Cl.func cb17 rfl) (example17W) trivial rfl ?_
 rintro _ _ ⟨A_1, c_1, A_2, c_2, rfl, rfl⟩
 refine WL.loud (.nil) (Ld.buildSlice (zs := [.string (⟨#[]⟩ : ByteArray), .slice none 0 0, .slice none 0 0, .string (⟨#[]⟩ : ByteArray)]) Tryz.underlying64 ti25 rfl rfl (by kernel_rfl) rfl rfl) trivial rfl ?_
 rintro _ _ ⟨b_1, rfl, rfl⟩
 refine WL.turn (.take 0 rfl (.nil)) (freeze_blk) ?_
 rintro _ rfl
 refine WL.quiet (Qt.build tp66 ti66 rfl rfl rfl) rfl rfl ?_
 refine WL.call (.u 0 rfl (.u 1 rfl (.u 2 rfl (.u 3 rfl (.u 4 rfl (.u 5 rfl (.u 6 rfl (.nil)))))))) (Cl.func cb16 rfl) (ladder17W _ _ _ _ _) trivial rfl ?_
 rintro _ _ ⟨A_3, c_3, rfl, rfl⟩
 refine WL.quiet (Qt.move rfl) rfl rfl ?_
 refine WL.quiet (Qt.extract rfl rfl) rfl rfl ?_
 refine WL.quiet (Qt.extract rfl rfl) rfl rfl ?_
 refine WL.quiet (Qt.extract rfl rfl) rfl rfl ?_
 refine WL.loud (.nil) (Ld.alloc ti60 rfl) trivial rfl ?_
 rintro _ _ ⟨b_2, rfl, rfl⟩
 refine WL.loud (.take 0 rfl (.nil)) (Ld.store ti60 rfl rfl rfl rfl rfl rfl) trivial rfl ?_
 rintro _ _ rfl
 refine WL.quiet (Qt.assign rfl) rfl rfl ?_
 refine WL.quiet (Qt.assign rfl) rfl rfl ?_
 refine WL.nil ?_
 refine WX.next ?_
 refine WC.seq ?_
 refine WC.region ?_
 refine WL.quiet (Qt.move rfl) rfl rfl ?_
 refine WL.quiet (Qt.eql rfl rfl) rfl rfl ?_
 refine WL.quiet (Qt.move rfl) rfl rfl ?_
 refine WL.quietG 2 true rfl 14 rfl rfl (Qt.move rfl) rfl ?_
 refine WL.quietG 2 true rfl 14 rfl rfl (Qt.eql rfl rfl) rfl ?_
 refine WL.quiet (Qt.pickT rfl rfl) rfl rfl ?_
 refine WL.quiet (Qt.move rfl) rfl rfl ?_
 refine WL.quietG 6 true rfl 18 rfl rfl (Qt.fieldAddrB tf60_1 rfl) rfl ?_
 refine WL.quietG 6 true rfl 18 rfl rfl (Qt.loadB 0 rfl ta39 rfl rfl) rfl ?_
 refine WL.quietG 6 true rfl 18 rfl rfl (Qt.build tp49 ti49 rfl rfl rfl) rfl ?_
 refine WL.quietG 6 true rfl 18 rfl rfl (Qt.build tp47 ti47 rfl rfl rfl) rfl ?_
 refine WL.quietG 6 true rfl 18 rfl rfl (Qt.build tp49 ti49 rfl rfl rfl) rfl ?_
 refine WL.quietG 6 true rfl 18 rfl rfl (Qt.build tp47 ti47 rfl rfl rfl) rfl ?_
 refine WL.quietG 6 true rfl 18 rfl rfl (Qt.build tp49 ti49 rfl rfl rfl) rfl ?_
 refine WL.quietG 6 true rfl 18 rfl rfl (Qt.build tp49 ti49 rfl rfl rfl) rfl ?_
 refine WL.loud (.nil) (Ld.buildSlice (zs := [.int .i64 0, .int .i64 0, .int .i64 0, .int .i64 0, .int .i64 0, .int .i64 0, .int .i64 0, .int .i64 0, .int .i64 0, .int .i64 0, .int .i64 0, .int .i64 0, .int .i64 0, .int .i64 0, .int .i64 0, .int .i64 0]) Tryz.underlying39 ti49 rfl rfl (by kernel_rfl) rfl rfl) ⟨18, rfl, rfl⟩ rfl ?_
 rintro _ _ ⟨b_3, rfl, rfl⟩
 refine WL.turn (.take 0 rfl (.nil)) (blk_row (e := kIns) (U := []) [Ins.mk 0 0 0 0, Ins.mk 3 0 1 0, Ins.mk 11 1 0 0, Ins.mk 16 0 0 0] (fun F hF => nomatch hF) (fun S w h => reps_ins4 _ _ _ _) (by decide)) ?_
 rintro _ rfl
 refine WL.turn (.take 0 rfl (.nil)) (freeze_row) ?_
 rintro _ rfl
 refine WL.call (.u 2 rfl (.u 0 rfl (.nil))) (Cl.func cb18 rfl) (equalInsW [Ins.mk 0 0 0 0, Ins.mk 3 0 1 0, Ins.mk 11 1 0 0, Ins.mk 16 0 0 0] _ _ _ _) ⟨18, rfl, rfl⟩ rfl ?_
 rintro _ _ ⟨rfl, rfl⟩
 refine WL.quiet (Qt.pickT rfl rfl) rfl rfl ?_
 refine WL.quiet (Qt.assign rfl) rfl rfl ?_
 refine WL.nil ?_
 refine WX.next ?_
 refine WC.ret ?_
 refine WX.ret1 (.nil) rfl rfl ?_
 exact ⟨rfl, rfl⟩

end Go.Proofs.YtolggjmgfijjfaaGreatDoor.Sep

/- A walk, printed by gen.py out of hints. -/
namespace Go.Proofs.YtolggjmgfijjfaaGreatDoor.Sep
open Go
variable {μ : Prop}
theorem tooLargeRungW (cs : List Contact) (lb jp : ByteArray) (A B : Option Addr) (c nB d : Nat)  : Spec μ Tryz.prog 4 #[.agg [.string lb, .slice A cs.length c, .slice B nB d, .string jp].toArray] [rd kContact A c cs] fun v Δ => ∃ x : Int, v = .int .i64 x ∧ Δ = [] ∧ (x ≤ 0 → cs.length ≤ 60) := by
 refine Spec.of_body (n := 32) Tryz.func4 rfl rfl rfl fun w0 S0 O0 => ?_
 show WC _ _ _ _ _ _ [(0, .agg [.string lb, .slice A cs.length c, .slice B nB d, .string jp].toArray)] [rd kContact A c cs]
 refine WC.learn (Z := Unit) (Δ := fun _ => []) (φ := fun _ => cs.length ≤ c ∧ c ≤ 9223372036854775807) 0 rfl (fun S w h => ⟨(), rd_bounds h, nofacts⟩) ?_
 rintro _ ⟨hb_1, hb_2⟩
 refine WC.seq ?_
 refine WC.region ?_
 refine WL.loud (.nil) (Ld.box rfl rfl) trivial rfl ?_
 rintro _ _ ⟨b_1, rfl, rfl⟩
 refine WL.quiet (Qt.assign rfl) rfl rfl ?_
 refine WL.nil ?_
 refine WX.next ?_
 refine WC.seq ?_
 refine WC.region ?_
 refine WL.quiet (Qt.assign rfl) rfl rfl ?_
 refine WL.nil ?_
 refine WX.next ?_
 refine WC.seq ?_
 refine WC.seq ?_
 refine WC.region ?_
 refine WL.quiet (Qt.fieldAddrB tf25_1 rfl) rfl rfl ?_
 refine WL.quiet (Qt.loadB 0 rfl ta22 rfl rfl) rfl rfl ?_
 refine WL.quiet (Qt.lenS Tryz.underlying22 rfl) rfl rfl ?_
 refine WL.quiet (Qt.move rfl) rfl rfl ?_
 refine WL.nil ?_
 refine WX.next ?_
 refine WC.block ?_
 refine WC.loop (fun w0 : Nat × Int => [(1, .pointer (some ⟨b_1, 0, none⟩)), (2, .int .i64 0), (3, .int .i64 w0.2), (7, .slice A cs.length c), (8, .int .i64 ((cs.length : Nat) : Int)), (9, .int .i64 ((w0.1 : Nat) : Int))]) (fun w0 => [blk b_1 25 [.string lb, .slice A cs.length c, .slice B nB d, .string jp], rd kContact A c cs]) (fun w0 => w0.1 ≤ cs.length) (fun w0 => cs.length - w0.1) (0, 0) (Nat.zero_le _) ⟨rfl, rfl, rfl, rfl, rfl, rfl, trivial⟩ (.take 0 rfl (.u 0 rfl (.nil))) ?_
 rintro ⟨k, s⟩ hk
 try dsimp only at hk
 show WC _ _ _ _ _ _ [(1, .pointer (some ⟨b_1, 0, none⟩)), (2, .int .i64 0), (3, .int .i64 s), (7, .slice A cs.length c), (8, .int .i64 ((cs.length : Nat) : Int)), (9, .int .i64 ((k : Nat) : Int))] [blk b_1 25 [.string lb, .slice A cs.length c, .slice B nB d, .string jp], rd kContact A c cs]
 refine WC.seq ?_
 refine WC.region ?_
 refine WL.quiet (Qt.lss rfl rfl) rfl rfl ?_
 refine WL.nil ?_
 refine WX.next ?_
 refine WC.seq ?_
 refine WC.condD rfl (fun hc_1 => ?_) (fun hc_1 => ?_)
 ·
  refine WC.skip ?_
  refine WX.next ?_
  refine WC.seq ?_
  refine WC.block ?_
  refine WC.seq ?_
  refine WC.region ?_
  have hj_1 : k < cs.length := by omega
  refine WL.learn 1 rfl (rd_at k hj_1 (vContact _)) ?_
  rintro ⟨p_1, ⟨⟩⟩ hA_1
  refine WL.quiet (Qt.indexAddrE k hA_1 Tryz.underlying22 ti56 rfl rfl (by first | assumption | omega)) rfl rfl ?_
  refine WL.quiet (Qt.loadCA (p := p_1.add (k * 5)) (o := 0) 0 rfl ta56 ti56 rfl rfl) rfl rfl ?_
  refine WL.loud (.nil) (Ld.alloc ti56 rfl) trivial rfl ?_
  rintro _ _ ⟨b_2, rfl, rfl⟩
  refine WL.loud (.take 0 rfl (.nil)) (Ld.store ti56 rfl rfl rfl rfl rfl rfl) trivial rfl ?_
  rintro _ _ rfl
  refine WL.nil ?_
  refine WX.next ?_
  refine WC.region ?_
  refine WL.quiet (Qt.move rfl) rfl rfl ?_
  refine WL.quiet (Qt.fieldAddrB tf56_2 rfl) rfl rfl ?_
  refine WL.quiet (Qt.loadB 0 rfl ta9 rfl rfl) rfl rfl ?_
  refine WL.quiet (Qt.lenStr Tryz.underlying9 rfl) rfl rfl ?_
  refine WL.quiet (Qt.addW rfl rfl) rfl rfl ?_
  refine WL.quiet (Qt.fieldAddrB tf56_3 rfl) rfl rfl ?_
  refine WL.quiet (Qt.loadB 0 rfl ta9 rfl rfl) rfl rfl ?_
  refine WL.quiet (Qt.lenStr Tryz.underlying9 rfl) rfl rfl ?_
  refine WL.quiet (Qt.addW rfl rfl) rfl rfl ?_
  refine WL.quiet (Qt.addW rfl rfl) rfl rfl ?_
  refine WL.quiet (Qt.assign rfl) rfl rfl ?_
  refine WL.nil ?_
  refine WX.block_end ?_
  refine WX.next ?_
  refine WC.region ?_
  refine WL.quiet (Qt.add rfl rfl (by omega)) rfl rfl ?_
  refine WL.quiet (Qt.move rfl) rfl rfl ?_
  refine WL.nil ?_
  exact WX.back (k + 1, IntKind.i64.wrap (s + (IntKind.i64.wrap ((IntKind.i64.wrap (1 + (((cs[k].frm).size : Nat) : Int))) + (((cs[k].to).size : Nat) : Int))))) (by dsimp only; omega) (by first | omega | (dsimp only; omega) | (simp; omega)) ⟨rfl, rfl, rfl, rfl, rfl, rfl, trivial⟩ (.take 2 rfl (.u 2 rfl (.nil)))
 ·
  refine WC.exit ?_
  refine WX.pass_exit ?_
  refine WX.pass_exit ?_
  refine WX.block_exit ?_
  refine WX.next ?_
  refine WC.seq ?_
  refine WC.cut (fun _ : Unit => [(2, .int .i64 0), (31, .bool (decide (((s : Int) > 2000) ∨ (((cs.length : Nat) : Int) > 60))))]) (fun _ => [blk b_1 25 [.string lb, .slice A cs.length c, .slice B nB d, .string jp], rd kContact A c cs]) (fun _ => True) ?_ ?_
  ·
   refine WC.region ?_
   refine WL.quiet (Qt.move rfl) rfl rfl ?_
   refine WL.quiet (Qt.gtr rfl rfl) rfl rfl ?_
   refine WL.quiet (Qt.move rfl) rfl rfl ?_
   refine WL.splitD 26 rfl rfl (fun hg_1 => ?_) (fun hg_1 => ?_)
   ·
    refine WL.skipG 2 false true rfl 26 rfl rfl rfl rfl ?_
    refine WL.skipG 2 false true rfl 26 rfl rfl rfl rfl ?_
    refine WL.skipG 2 false true rfl 26 rfl rfl rfl rfl ?_
    refine WL.skipG 2 false true rfl 26 rfl rfl rfl rfl ?_
    refine WL.quiet (Qt.pickT rfl rfl) rfl rfl ?_
    refine WL.nil ?_
    exact WX.cut () trivial ⟨rfl, (by rw [show decide (((s : Int) > 2000) ∨ (((cs.length : Nat) : Int) > 60)) = true from by first | (simp [hg_1]; done) | exact decide_eq_decide.2 (by omega) | exact decide_eq_true (by omega) | exact decide_eq_false (by omega) | (simp [hg_1] <;> omega)]; rfl), trivial⟩ (.take 0 rfl (.u 0 rfl (.nil)))
   ·
    refine WL.quietG 2 false rfl 26 rfl rfl (Qt.fieldAddrB tf25_1 rfl) rfl ?_
    refine WL.quietG 2 false rfl 26 rfl rfl (Qt.loadB 0 rfl ta22 rfl rfl) rfl ?_
    refine WL.quietG 2 false rfl 26 rfl rfl (Qt.lenS Tryz.underlying22 rfl) rfl ?_
    refine WL.quietG 2 false rfl 26 rfl rfl (Qt.gtr rfl rfl) rfl ?_
    refine WL.quiet (Qt.pickF rfl rfl) rfl rfl ?_
    refine WL.nil ?_
    exact WX.cut () trivial ⟨rfl, (by rw [show decide (((s : Int) > 2000) ∨ (((cs.length : Nat) : Int) > 60)) = (decide (((cs.length : Nat) : Int) > 60)) from by first | (simp [hg_1]; done) | exact decide_eq_decide.2 (by omega) | exact decide_eq_true (by omega) | exact decide_eq_false (by omega) | (simp [hg_1] <;> omega)]; rfl), trivial⟩ (.take 0 rfl (.u 0 rfl (.nil)))
  ·
   intro _ _
   show WC _ _ _ _ _ _ [(2, .int .i64 0), (31, .bool (decide (((s : Int) > 2000) ∨ (((cs.length : Nat) : Int) > 60))))] [blk b_1 25 [.string lb, .slice A cs.length c, .slice B nB d, .string jp], rd kContact A c cs]
   refine WC.condD rfl (fun hc_2 => ?_) (fun hc_2 => ?_)
   ·
    refine WC.seq ?_
    refine WC.region ?_
    refine WL.quiet (Qt.assign rfl) rfl rfl ?_
    refine WL.nil ?_
    refine WX.next ?_
    refine WC.ret ?_
    refine WX.pass_ret ?_
    refine WX.ret1 (.nil) rfl rfl ?_
    exact ⟨_, rfl, rfl, fun h => absurd h (by decide)⟩
   ·
    refine WC.skip ?_
    refine WX.next ?_
    refine WC.seq ?_
    refine WC.region ?_
    refine WL.quiet (Qt.assign rfl) rfl rfl ?_
    refine WL.nil ?_
    refine WX.next ?_
    refine WC.ret ?_
    refine WX.ret1 (.nil) rfl rfl ?_
    exact ⟨_, rfl, rfl, fun _ => by omega⟩

end Go.Proofs.YtolggjmgfijjfaaGreatDoor.Sep

/- A walk, printed by gen.py out of hints. -/
namespace Go.Proofs.YtolggjmgfijjfaaGreatDoor.Sep
open Go
variable {μ : Prop}
theorem refCloneW (q m e : List Bool) (QA MA EA : Option Addr) (cq cm ce : Nat) (hq : q.length ≤ 100000) (hm : m.length ≤ 100000) (he : e.length ≤ 100000) : Spec μ Tryz.prog 23 #[.agg [.slice QA q.length cq, .slice MA m.length cm, .slice EA e.length ce].toArray] [rd kBool QA cq q, rd kBool MA cm m, rd kBool EA ce e] fun v Δ => ∃ Q1 q1 M1 m1 E1 e1, v = .agg #[.slice Q1 q.length q1, .slice M1 m.length m1, .slice E1 e.length e1] ∧ Δ = [row kBool 4 Q1 q1 q, row kBool 4 M1 m1 m, row kBool 4 E1 e1 e] := by
 refine Spec.of_body (n := 16) Tryz.func23 rfl rfl rfl fun w0 S0 O0 => ?_
 show WC _ _ _ _ _ _ [(0, .agg [.slice QA q.length cq, .slice MA m.length cm, .slice EA e.length ce].toArray)] [rd kBool QA cq q, rd kBool MA cm m, rd kBool EA ce e]
 refine WC.learn (Z := Unit) (Δ := fun _ => []) (φ := fun _ => q.length ≤ cq ∧ cq ≤ 9223372036854775807) 0 rfl (fun S w h => ⟨(), rd_bounds h, nofacts⟩) ?_
 rintro _ ⟨hb_1, hb_2⟩
 refine WC.learn (Z := Unit) (Δ := fun _ => []) (φ := fun _ => m.length ≤ cm ∧ cm ≤ 9223372036854775807) 1 rfl (fun S w h => ⟨(), rd_bounds h, nofacts⟩) ?_
 rintro _ ⟨hb_3, hb_4⟩
 refine WC.learn (Z := Unit) (Δ := fun _ => []) (φ := fun _ => e.length ≤ ce ∧ ce ≤ 9223372036854775807) 2 rfl (fun S w h => ⟨(), rd_bounds h, nofacts⟩) ?_
 rintro _ ⟨hb_5, hb_6⟩
 refine WC.seq ?_
 refine WC.region ?_
 refine WL.loud (.nil) (Ld.box rfl rfl) trivial rfl ?_
 rintro _ _ ⟨b_1, rfl, rfl⟩
 refine WL.loud (.nil) (Ld.alloc ti28 rfl) trivial rfl ?_
 rintro _ _ ⟨b_2, rfl, rfl⟩
 refine WL.nil ?_
 refine WX.next ?_
 refine WC.cut (fun w0 : (Option Addr) × Nat × (Option Addr) × Nat × (Option Addr) × Nat => [(2, .pointer (some ⟨b_2, 0, none⟩))]) (fun w0 => [blk b_2 28 [.slice w0.1 (([] ++ q).length) w0.2.1, .slice w0.2.2.1 (([] ++ m).length) w0.2.2.2.1, .slice w0.2.2.2.2.1 (([] ++ e).length) w0.2.2.2.2.2], row kBool 4 w0.2.2.2.2.1 w0.2.2.2.2.2 ([] ++ e), row kBool 4 w0.2.2.1 w0.2.2.2.1 ([] ++ m), row kBool 4 w0.1 w0.2.1 ([] ++ q), blk b_1 28 [.slice QA q.length cq, .slice MA m.length cm, .slice EA e.length ce], rd kBool QA cq q, rd kBool MA cm m, rd kBool EA ce e]) (fun w0 => True) ?_ ?_
 ·
  refine WC.calm (Calm.then (calm_FQ _ _)) fun hC => ?_
  refine WC.draw (Γq := [blk b_2 28 [.slice none 0 0, .slice none 0 0, .slice none 0 0], blk b_1 28 [.slice QA q.length cq, .slice MA m.length cm, .slice EA e.length ce], rd kBool QA cq q, rd kBool MA cm m, rd kBool EA ce e]) [0, 1, 2, 3, 4, 5, 6, 7, 8, 9, 10, 11, 12] mixed ?_
  refine WA.named (.take 0 rfl (.take 0 rfl (.u 0 rfl (.u 1 rfl (.u 2 rfl (.nil)))))) fun sl_1 => ?_
  refine WA.tk 1 (by kernel_rfl) rfl hC (Qt.fieldAddrB tf28_0 rfl) trivial rfl sl_1 ?_
  refine WA.tk 2 (by kernel_rfl) rfl hC (Qt.loadB 1 rfl ta26 rfl rfl) trivial rfl sl_1 ?_
  refine WA.tk 5 (by kernel_rfl) rfl hC (Qt.fieldAddrB tf28_1 rfl) trivial rfl sl_1 ?_
  refine WA.tk 6 (by kernel_rfl) rfl hC (Qt.loadB 1 rfl ta26 rfl rfl) trivial rfl sl_1 ?_
  refine WA.tk 9 (by kernel_rfl) rfl hC (Qt.fieldAddrB tf28_2 rfl) trivial rfl sl_1 ?_
  refine WA.tk 10 (by kernel_rfl) rfl hC (Qt.loadB 1 rfl ta26 rfl rfl) trivial rfl sl_1 ?_
  refine WA.all [0, 4, 8] (by kernel_rfl) (by simp) ?_
  intro i0 hi0
  simp only [List.mem_cons, List.not_mem_nil, or_false] at hi0
  rcases hi0 with rfl | rfl | rfl
  ·
   refine WO.loud rfl (.nil) (Ld.buildEmpty Tryz.underlying26 ti4) trivial rfl (by rintro _ _ ⟨b_3, rfl, rfl⟩; exact ⟨_, (.take 1 rfl (.take 1 rfl (.u 1 rfl (.u 2 rfl (.u 3 rfl (.nil))))))⟩) ?_
   rintro _ _ ⟨b_3, rfl, rfl⟩
   refine WA.turn (.take 0 rfl (.nil)) (blk_row (e := kBool) (U := []) [] (fun F hF => nomatch hF) (fun S w h => Reps.nil _ _ _) (by simp)) ?_
   rintro _ rfl
   refine WA.all [3, 4, 8] (by kernel_rfl) (by simp) ?_
   intro i0 hi0
   simp only [List.mem_cons, List.not_mem_nil, or_false] at hi0
   rcases hi0 with rfl | rfl | rfl
   ·
    refine WO.loud rfl (.take 0 rfl (.u 2 rfl (.nil))) (Ld.appendRd (e := kBool) (xs := []) (ys := q) Tryz.underlying26 ti4 rfl (by decide) (by decide) rfl rfl (by first | omega | (simp; omega))) trivial rfl (by rintro _ _ ⟨A_1, c_1, rfl, rfl⟩; exact ⟨_, (.take 1 rfl (.take 1 rfl (.u 1 rfl (.u 2 rfl (.u 3 rfl (.nil))))))⟩) ?_
    rintro _ _ ⟨A_1, c_1, rfl, rfl⟩
    refine WA.two 4 8 (by kernel_rfl) ?_ ?_
    ·
     refine WO.loud rfl (.nil) (Ld.buildEmpty Tryz.underlying26 ti4) trivial rfl (by rintro _ _ ⟨b_4, rfl, rfl⟩; exact ⟨_, (.take 2 rfl (.take 2 rfl (.u 2 rfl (.u 3 rfl (.u 4 rfl (.nil))))))⟩) ?_
     rintro _ _ ⟨b_4, rfl, rfl⟩
     refine WA.turn (.take 0 rfl (.nil)) (blk_row (e := kBool) (U := []) [] (fun F hF => nomatch hF) (fun S w h => Reps.nil _ _ _) (by simp)) ?_
     rintro _ rfl
     refine WA.two 7 8 (by kernel_rfl) ?_ ?_
     ·
      refine WO.loud rfl (.take 0 rfl (.u 4 rfl (.nil))) (Ld.appendRd (e := kBool) (xs := []) (ys := m) Tryz.underlying26 ti4 rfl (by decide) (by decide) rfl rfl (by first | omega | (simp; omega))) trivial rfl (by rintro _ _ ⟨A_2, c_2, rfl, rfl⟩; exact ⟨_, (.take 2 rfl (.take 2 rfl (.u 2 rfl (.u 3 rfl (.u 4 rfl (.nil))))))⟩) ?_
      rintro _ _ ⟨A_2, c_2, rfl, rfl⟩
      refine WA.one 8 (by kernel_rfl) ?_
      refine WO.loud rfl (.nil) (Ld.buildEmpty Tryz.underlying26 ti4) trivial rfl (by rintro _ _ ⟨b_5, rfl, rfl⟩; exact ⟨_, (.take 3 rfl (.take 3 rfl (.u 3 rfl (.u 4 rfl (.u 5 rfl (.nil))))))⟩) ?_
      rintro _ _ ⟨b_5, rfl, rfl⟩
      refine WA.turn (.take 0 rfl (.nil)) (blk_row (e := kBool) (U := []) [] (fun F hF => nomatch hF) (fun S w h => Reps.nil _ _ _) (by simp)) ?_
      rintro _ rfl
      refine WA.one 11 (by kernel_rfl) ?_
      refine WO.loud rfl (.take 0 rfl (.u 6 rfl (.nil))) (Ld.appendRd (e := kBool) (xs := []) (ys := e) Tryz.underlying26 ti4 rfl (by decide) (by decide) rfl rfl (by first | omega | (simp; omega))) trivial rfl (by rintro _ _ ⟨A_3, c_3, rfl, rfl⟩; exact ⟨_, (.take 3 rfl (.take 3 rfl (.u 3 rfl (.u 4 rfl (.u 5 rfl (.nil))))))⟩) ?_
      rintro _ _ ⟨A_3, c_3, rfl, rfl⟩
      refine WA.named (.take 3 rfl (.take 3 rfl (.u 3 rfl (.u 4 rfl (.u 5 rfl (.nil)))))) fun sl_2 => ?_
      refine WA.tk 12 (by kernel_rfl) rfl hC (Qt.build tp28 ti28 rfl rfl rfl) trivial rfl sl_2 ?_
      refine WA.phase (K' := [0, 1, 2, 3, 4, 5, 6, 7, 8, 9, 10, 11, 12, 13]) (Γq' := [row kBool 4 A_3 c_3 ([] ++ e), row kBool 4 A_2 c_2 ([] ++ m), row kBool 4 A_1 c_1 ([] ++ q), blk b_1 28 [.slice QA q.length cq, .slice MA m.length cm, .slice EA e.length ce], rd kBool QA cq q, rd kBool MA cm m, rd kBool EA ce e]) (by kernel_rfl) ?_
      refine WA.one 13 (by kernel_rfl) ?_
      refine WO.loud rfl (.take 3 rfl (.nil)) (Ld.store ti28 rfl rfl rfl rfl rfl rfl) trivial rfl (by rintro _ _ rfl; exact ⟨_, (.take 1 rfl (.take 1 rfl (.take 1 rfl (.take 1 rfl (.u 1 rfl (.u 2 rfl (.u 3 rfl (.nil))))))))⟩) ?_
      rintro _ _ rfl
      refine WA.done (by kernel_rfl) ?_
      exact WX.cut (A_1, c_1, A_2, c_2, A_3, c_3) trivial ⟨rfl, trivial⟩ (.take 0 rfl (.take 0 rfl (.take 0 rfl (.take 0 rfl (.take 0 rfl (.u 0 rfl (.u 1 rfl (.u 2 rfl (.nil)))))))))
     ·
      refine WO.loud rfl (.nil) (Ld.buildEmpty Tryz.underlying26 ti4) trivial rfl (by rintro _ _ ⟨b_6, rfl, rfl⟩; exact ⟨_, (.take 3 rfl (.take 3 rfl (.u 3 rfl (.u 4 rfl (.u 5 rfl (.nil))))))⟩) ?_
      rintro _ _ ⟨b_6, rfl, rfl⟩
      refine WA.turn (.take 0 rfl (.nil)) (blk_row (e := kBool) (U := []) [] (fun F hF => nomatch hF) (fun S w h => Reps.nil _ _ _) (by simp)) ?_
      rintro _ rfl
      refine WA.one 7 (by kernel_rfl) ?_
      refine WO.loud rfl (.take 1 rfl (.u 5 rfl (.nil))) (Ld.appendRd (e := kBool) (xs := []) (ys := m) Tryz.underlying26 ti4 rfl (by decide) (by decide) rfl rfl (by first | omega | (simp; omega))) trivial rfl (by rintro _ _ ⟨A_4, c_4, rfl, rfl⟩; exact ⟨_, (.take 3 rfl (.take 3 rfl (.u 3 rfl (.u 4 rfl (.u 5 rfl (.nil))))))⟩) ?_
      rintro _ _ ⟨A_4, c_4, rfl, rfl⟩
      refine WA.one 11 (by kernel_rfl) ?_
      refine WO.loud rfl (.take 1 rfl (.u 6 rfl (.nil))) (Ld.appendRd (e := kBool) (xs := []) (ys := e) Tryz.underlying26 ti4 rfl (by decide) (by decide) rfl rfl (by first | omega | (simp; omega))) trivial rfl (by rintro _ _ ⟨A_5, c_5, rfl, rfl⟩; exact ⟨_, (.take 3 rfl (.take 3 rfl (.u 3 rfl (.u 4 rfl (.u 5 rfl (.nil))))))⟩) ?_
      rintro _ _ ⟨A_5, c_5, rfl, rfl⟩
      refine WA.named (.take 3 rfl (.take 3 rfl (.u 3 rfl (.u 4 rfl (.u 5 rfl (.nil)))))) fun sl_3 => ?_
      refine WA.tk 12 (by kernel_rfl) rfl hC (Qt.build tp28 ti28 rfl rfl rfl) trivial rfl sl_3 ?_
      refine WA.phase (K' := [0, 1, 2, 3, 4, 5, 6, 7, 8, 9, 10, 11, 12, 13]) (Γq' := [row kBool 4 A_5 c_5 ([] ++ e), row kBool 4 A_4 c_4 ([] ++ m), row kBool 4 A_1 c_1 ([] ++ q), blk b_1 28 [.slice QA q.length cq, .slice MA m.length cm, .slice EA e.length ce], rd kBool QA cq q, rd kBool MA cm m, rd kBool EA ce e]) (by kernel_rfl) ?_
      refine WA.one 13 (by kernel_rfl) ?_
      refine WO.loud rfl (.take 3 rfl (.nil)) (Ld.store ti28 rfl rfl rfl rfl rfl rfl) trivial rfl (by rintro _ _ rfl; exact ⟨_, (.take 1 rfl (.take 1 rfl (.take 1 rfl (.take 1 rfl (.u 1 rfl (.u 2 rfl (.u 3 rfl (.nil))))))))⟩) ?_
      rintro _ _ rfl
      refine WA.done (by kernel_rfl) ?_
      exact WX.cut (A_1, c_1, A_4, c_4, A_5, c_5) trivial ⟨rfl, trivial⟩ (.take 0 rfl (.take 0 rfl (.take 0 rfl (.take 0 rfl (.take 0 rfl (.u 0 rfl (.u 1 rfl (.u 2 rfl (.nil)))))))))
    ·
     refine WO.loud rfl (.nil) (Ld.buildEmpty Tryz.underlying26 ti4) trivial rfl (by rintro _ _ ⟨b_7, rfl, rfl⟩; exact ⟨_, (.take 2 rfl (.take 2 rfl (.u 2 rfl (.u 3 rfl (.u 4 rfl (.nil))))))⟩) ?_
     rintro _ _ ⟨b_7, rfl, rfl⟩
     refine WA.turn (.take 0 rfl (.nil)) (blk_row (e := kBool) (U := []) [] (fun F hF => nomatch hF) (fun S w h => Reps.nil _ _ _) (by simp)) ?_
     rintro _ rfl
     refine WA.one 4 (by kernel_rfl) ?_
     refine WO.loud rfl (.nil) (Ld.buildEmpty Tryz.underlying26 ti4) trivial rfl (by rintro _ _ ⟨b_8, rfl, rfl⟩; exact ⟨_, (.take 3 rfl (.take 3 rfl (.u 3 rfl (.u 4 rfl (.u 5 rfl (.nil))))))⟩) ?_
     rintro _ _ ⟨b_8, rfl, rfl⟩
     refine WA.turn (.take 0 rfl (.nil)) (blk_row (e := kBool) (U := []) [] (fun F hF => nomatch hF) (fun S w h => Reps.nil _ _ _) (by simp)) ?_
     rintro _ rfl
     refine WA.one 7 (by kernel_rfl) ?_
     refine WO.loud rfl (.take 0 rfl (.u 5 rfl (.nil))) (Ld.appendRd (e := kBool) (xs := []) (ys := m) Tryz.underlying26 ti4 rfl (by decide) (by decide) rfl rfl (by first | omega | (simp; omega))) trivial rfl (by rintro _ _ ⟨A_6, c_6, rfl, rfl⟩; exact ⟨_, (.take 3 rfl (.take 3 rfl (.u 3 rfl (.u 4 rfl (.u 5 rfl (.nil))))))⟩) ?_
     rintro _ _ ⟨A_6, c_6, rfl, rfl⟩
     refine WA.one 11 (by kernel_rfl) ?_
     refine WO.loud rfl (.take 1 rfl (.u 6 rfl (.nil))) (Ld.appendRd (e := kBool) (xs := []) (ys := e) Tryz.underlying26 ti4 rfl (by decide) (by decide) rfl rfl (by first | omega | (simp; omega))) trivial rfl (by rintro _ _ ⟨A_7, c_7, rfl, rfl⟩; exact ⟨_, (.take 3 rfl (.take 3 rfl (.u 3 rfl (.u 4 rfl (.u 5 rfl (.nil))))))⟩) ?_
     rintro _ _ ⟨A_7, c_7, rfl, rfl⟩
     refine WA.named (.take 3 rfl (.take 3 rfl (.u 3 rfl (.u 4 rfl (.u 5 rfl (.nil)))))) fun sl_4 => ?_
     refine WA.tk 12 (by kernel_rfl) rfl hC (Qt.build tp28 ti28 rfl rfl rfl) trivial rfl sl_4 ?_
     refine WA.phase (K' := [0, 1, 2, 3, 4, 5, 6, 7, 8, 9, 10, 11, 12, 13]) (Γq' := [row kBool 4 A_7 c_7 ([] ++ e), row kBool 4 A_6 c_6 ([] ++ m), row kBool 4 A_1 c_1 ([] ++ q), blk b_1 28 [.slice QA q.length cq, .slice MA m.length cm, .slice EA e.length ce], rd kBool QA cq q, rd kBool MA cm m, rd kBool EA ce e]) (by kernel_rfl) ?_
     refine WA.one 13 (by kernel_rfl) ?_
     refine WO.loud rfl (.take 3 rfl (.nil)) (Ld.store ti28 rfl rfl rfl rfl rfl rfl) trivial rfl (by rintro _ _ rfl; exact ⟨_, (.take 1 rfl (.take 1 rfl (.take 1 rfl (.take 1 rfl (.u 1 rfl (.u 2 rfl (.u 3 rfl (.nil))))))))⟩) ?_
     rintro _ _ rfl
     refine WA.done (by kernel_rfl) ?_
     exact WX.cut (A_1, c_1, A_6, c_6, A_7, c_7) trivial ⟨rfl, trivial⟩ (.take 0 rfl (.take 0 rfl (.take 0 rfl (.take 0 rfl (.take 0 rfl (.u 0 rfl (.u 1 rfl (.u 2 rfl (.nil)))))))))
   ·
    refine WO.loud rfl (.nil) (Ld.buildEmpty Tryz.underlying26 ti4) trivial rfl (by rintro _ _ ⟨b_9, rfl, rfl⟩; exact ⟨_, (.take 2 rfl (.take 2 rfl (.u 2 rfl (.u 3 rfl (.u 4 rfl (.nil))))))⟩) ?_
    rintro _ _ ⟨b_9, rfl, rfl⟩
    refine WA.turn (.take 0 rfl (.nil)) (blk_row (e := kBool) (U := []) [] (fun F hF => nomatch hF) (fun S w h => Reps.nil _ _ _) (by simp)) ?_
    rintro _ rfl
    refine WA.two 3 8 (by kernel_rfl) ?_ ?_
    ·
     refine WO.loud rfl (.take 1 rfl (.u 3 rfl (.nil))) (Ld.appendRd (e := kBool) (xs := []) (ys := q) Tryz.underlying26 ti4 rfl (by decide) (by decide) rfl rfl (by first | omega | (simp; omega))) trivial rfl (by rintro _ _ ⟨A_8, c_8, rfl, rfl⟩; exact ⟨_, (.take 2 rfl (.take 2 rfl (.u 2 rfl (.u 3 rfl (.u 4 rfl (.nil))))))⟩) ?_
     rintro _ _ ⟨A_8, c_8, rfl, rfl⟩
     refine WA.two 7 8 (by kernel_rfl) ?_ ?_
     ·
      refine WO.loud rfl (.take 1 rfl (.u 4 rfl (.nil))) (Ld.appendRd (e := kBool) (xs := []) (ys := m) Tryz.underlying26 ti4 rfl (by decide) (by decide) rfl rfl (by first | omega | (simp; omega))) trivial rfl (by rintro _ _ ⟨A_9, c_9, rfl, rfl⟩; exact ⟨_, (.take 2 rfl (.take 2 rfl (.u 2 rfl (.u 3 rfl (.u 4 rfl (.nil))))))⟩) ?_
      rintro _ _ ⟨A_9, c_9, rfl, rfl⟩
      refine WA.one 8 (by kernel_rfl) ?_
      refine WO.loud rfl (.nil) (Ld.buildEmpty Tryz.underlying26 ti4) trivial rfl (by rintro _ _ ⟨b_10, rfl, rfl⟩; exact ⟨_, (.take 3 rfl (.take 3 rfl (.u 3 rfl (.u 4 rfl (.u 5 rfl (.nil))))))⟩) ?_
      rintro _ _ ⟨b_10, rfl, rfl⟩
      refine WA.turn (.take 0 rfl (.nil)) (blk_row (e := kBool) (U := []) [] (fun F hF => nomatch hF) (fun S w h => Reps.nil _ _ _) (by simp)) ?_
      rintro _ rfl
      refine WA.one 11 (by kernel_rfl) ?_
      refine WO.loud rfl (.take 0 rfl (.u 6 rfl (.nil))) (Ld.appendRd (e := kBool) (xs := []) (ys := e) Tryz.underlying26 ti4 rfl (by decide) (by decide) rfl rfl (by first | omega | (simp; omega))) trivial rfl (by rintro _ _ ⟨A_10, c_10, rfl, rfl⟩; exact ⟨_, (.take 3 rfl (.take 3 rfl (.u 3 rfl (.u 4 rfl (.u 5 rfl (.nil))))))⟩) ?_
      rintro _ _ ⟨A_10, c_10, rfl, rfl⟩
      refine WA.named (.take 3 rfl (.take 3 rfl (.u 3 rfl (.u 4 rfl (.u 5 rfl (.nil)))))) fun sl_5 => ?_
      refine WA.tk 12 (by kernel_rfl) rfl hC (Qt.build tp28 ti28 rfl rfl rfl) trivial rfl sl_5 ?_
      refine WA.phase (K' := [0, 1, 2, 3, 4, 5, 6, 7, 8, 9, 10, 11, 12, 13]) (Γq' := [row kBool 4 A_10 c_10 ([] ++ e), row kBool 4 A_9 c_9 ([] ++ m), row kBool 4 A_8 c_8 ([] ++ q), blk b_1 28 [.slice QA q.length cq, .slice MA m.length cm, .slice EA e.length ce], rd kBool QA cq q, rd kBool MA cm m, rd kBool EA ce e]) (by kernel_rfl) ?_
      refine WA.one 13 (by kernel_rfl) ?_
      refine WO.loud rfl (.take 3 rfl (.nil)) (Ld.store ti28 rfl rfl rfl rfl rfl rfl) trivial rfl (by rintro _ _ rfl; exact ⟨_, (.take 1 rfl (.take 1 rfl (.take 1 rfl (.take 1 rfl (.u 1 rfl (.u 2 rfl (.u 3 rfl (.nil))))))))⟩) ?_
      rintro _ _ rfl
      refine WA.done (by kernel_rfl) ?_
      exact WX.cut (A_8, c_8, A_9, c_9, A_10, c_10) trivial ⟨rfl, trivial⟩ (.take 0 rfl (.take 0 rfl (.take 0 rfl (.take 0 rfl (.take 0 rfl (.u 0 rfl (.u 1 rfl (.u 2 rfl (.nil)))))))))
     ·
      refine WO.loud rfl (.nil) (Ld.buildEmpty Tryz.underlying26 ti4) trivial rfl (by rintro _ _ ⟨b_11, rfl, rfl⟩; exact ⟨_, (.take 3 rfl (.take 3 rfl (.u 3 rfl (.u 4 rfl (.u 5 rfl (.nil))))))⟩) ?_
      rintro _ _ ⟨b_11, rfl, rfl⟩
      refine WA.turn (.take 0 rfl (.nil)) (blk_row (e := kBool) (U := []) [] (fun F hF => nomatch hF) (fun S w h => Reps.nil _ _ _) (by simp)) ?_
      rintro _ rfl
      refine WA.one 7 (by kernel_rfl) ?_
      refine WO.loud rfl (.take 2 rfl (.u 5 rfl (.nil))) (Ld.appendRd (e := kBool) (xs := []) (ys := m) Tryz.underlying26 ti4 rfl (by decide) (by decide) rfl rfl (by first | omega | (simp; omega))) trivial rfl (by rintro _ _ ⟨A_11, c_11, rfl, rfl⟩; exact ⟨_, (.take 3 rfl (.take 3 rfl (.u 3 rfl (.u 4 rfl (.u 5 rfl (.nil))))))⟩) ?_
      rintro _ _ ⟨A_11, c_11, rfl, rfl⟩
      refine WA.one 11 (by kernel_rfl) ?_
      refine WO.loud rfl (.take 1 rfl (.u 6 rfl (.nil))) (Ld.appendRd (e := kBool) (xs := []) (ys := e) Tryz.underlying26 ti4 rfl (by decide) (by decide) rfl rfl (by first | omega | (simp; omega))) trivial rfl (by rintro _ _ ⟨A_12, c_12, rfl, rfl⟩; exact ⟨_, (.take 3 rfl (.take 3 rfl (.u 3 rfl (.u 4 rfl (.u 5 rfl (.nil))))))⟩) ?_
      rintro _ _ ⟨A_12, c_12, rfl, rfl⟩
      refine WA.named (.take 3 rfl (.take 3 rfl (.u 3 rfl (.u 4 rfl (.u 5 rfl (.nil)))))) fun sl_6 => ?_
      refine WA.tk 12 (by kernel_rfl) rfl hC (Qt.build tp28 ti28 rfl rfl rfl) trivial rfl sl_6 ?_
      refine WA.phase (K' := [0, 1, 2, 3, 4, 5, 6, 7, 8, 9, 10, 11, 12, 13]) (Γq' := [row kBool 4 A_12 c_12 ([] ++ e), row kBool 4 A_11 c_11 ([] ++ m), row kBool 4 A_8 c_8 ([] ++ q), blk b_1 28 [.slice QA q.length cq, .slice MA m.length cm, .slice EA e.length ce], rd kBool QA cq q, rd kBool MA cm m, rd kBool EA ce e]) (by kernel_rfl) ?_
      refine WA.one 13 (by kernel_rfl) ?_
      refine WO.loud rfl (.take 3 rfl (.nil)) (Ld.store ti28 rfl rfl rfl rfl rfl rfl) trivial rfl (by rintro _ _ rfl; exact ⟨_, (.take 1 rfl (.take 1 rfl (.take 1 rfl (.take 1 rfl (.u 1 rfl (.u 2 rfl (.u 3 rfl (.nil))))))))⟩) ?_
      rintro _ _ rfl
      refine WA.done (by kernel_rfl) ?_
      exact WX.cut (A_8, c_8, A_11, c_11, A_12, c_12) trivial ⟨rfl, trivial⟩ (.take 0 rfl (.take 0 rfl (.take 0 rfl (.take 0 rfl (.take 0 rfl (.u 0 rfl (.u 1 rfl (.u 2 rfl (.nil)))))))))
    ·
     refine WO.loud rfl (.nil) (Ld.buildEmpty Tryz.underlying26 ti4) trivial rfl (by rintro _ _ ⟨b_12, rfl, rfl⟩; exact ⟨_, (.take 3 rfl (.take 3 rfl (.u 3 rfl (.u 4 rfl (.u 5 rfl (.nil))))))⟩) ?_
     rintro _ _ ⟨b_12, rfl, rfl⟩
     refine WA.turn (.take 0 rfl (.nil)) (blk_row (e := kBool) (U := []) [] (fun F hF => nomatch hF) (fun S w h => Reps.nil _ _ _) (by simp)) ?_
     rintro _ rfl
     refine WA.one 3 (by kernel_rfl) ?_
     refine WO.loud rfl (.take 2 rfl (.u 4 rfl (.nil))) (Ld.appendRd (e := kBool) (xs := []) (ys := q) Tryz.underlying26 ti4 rfl (by decide) (by decide) rfl rfl (by first | omega | (simp; omega))) trivial rfl (by rintro _ _ ⟨A_13, c_13, rfl, rfl⟩; exact ⟨_, (.take 3 rfl (.take 3 rfl (.u 3 rfl (.u 4 rfl (.u 5 rfl (.nil))))))⟩) ?_
     rintro _ _ ⟨A_13, c_13, rfl, rfl⟩
     refine WA.one 7 (by kernel_rfl) ?_
     refine WO.loud rfl (.take 2 rfl (.u 5 rfl (.nil))) (Ld.appendRd (e := kBool) (xs := []) (ys := m) Tryz.underlying26 ti4 rfl (by decide) (by decide) rfl rfl (by first | omega | (simp; omega))) trivial rfl (by rintro _ _ ⟨A_14, c_14, rfl, rfl⟩; exact ⟨_, (.take 3 rfl (.take 3 rfl (.u 3 rfl (.u 4 rfl (.u 5 rfl (.nil))))))⟩) ?_
     rintro _ _ ⟨A_14, c_14, rfl, rfl⟩
     refine WA.one 11 (by kernel_rfl) ?_
     refine WO.loud rfl (.take 2 rfl (.u 6 rfl (.nil))) (Ld.appendRd (e := kBool) (xs := []) (ys := e) Tryz.underlying26 ti4 rfl (by decide) (by decide) rfl rfl (by first | omega | (simp; omega))) trivial rfl (by rintro _ _ ⟨A_15, c_15, rfl, rfl⟩; exact ⟨_, (.take 3 rfl (.take 3 rfl (.u 3 rfl (.u 4 rfl (.u 5 rfl (.nil))))))⟩) ?_
     rintro _ _ ⟨A_15, c_15, rfl, rfl⟩
     refine WA.named (.take 3 rfl (.take 3 rfl (.u 3 rfl (.u 4 rfl (.u 5 rfl (.nil)))))) fun sl_7 => ?_
     refine WA.tk 12 (by kernel_rfl) rfl hC (Qt.build tp28 ti28 rfl rfl rfl) trivial rfl sl_7 ?_
     refine WA.phase (K' := [0, 1, 2, 3, 4, 5, 6, 7, 8, 9, 10, 11, 12, 13]) (Γq' := [row kBool 4 A_15 c_15 ([] ++ e), row kBool 4 A_14 c_14 ([] ++ m), row kBool 4 A_13 c_13 ([] ++ q), blk b_1 28 [.slice QA q.length cq, .slice MA m.length cm, .slice EA e.length ce], rd kBool QA cq q, rd kBool MA cm m, rd kBool EA ce e]) (by kernel_rfl) ?_
     refine WA.one 13 (by kernel_rfl) ?_
     refine WO.loud rfl (.take 3 rfl (.nil)) (Ld.store ti28 rfl rfl rfl rfl rfl rfl) trivial rfl (by rintro _ _ rfl; exact ⟨_, (.take 1 rfl (.take 1 rfl (.take 1 rfl (.take 1 rfl (.u 1 rfl (.u 2 rfl (.u 3 rfl (.nil))))))))⟩) ?_
     rintro _ _ rfl
     refine WA.done (by kernel_rfl) ?_
     exact WX.cut (A_13, c_13, A_14, c_14, A_15, c_15) trivial ⟨rfl, trivial⟩ (.take 0 rfl (.take 0 rfl (.take 0 rfl (.take 0 rfl (.take 0 rfl (.u 0 rfl (.u 1 rfl (.u 2 rfl (.nil)))))))))
   ·
    refine WO.loud rfl (.nil) (Ld.buildEmpty Tryz.underlying26 ti4) trivial rfl (by rintro _ _ ⟨b_13, rfl, rfl⟩; exact ⟨_, (.take 2 rfl (.take 2 rfl (.u 2 rfl (.u 3 rfl (.u 4 rfl (.nil))))))⟩) ?_
    rintro _ _ ⟨b_13, rfl, rfl⟩
    refine WA.turn (.take 0 rfl (.nil)) (blk_row (e := kBool) (U := []) [] (fun F hF => nomatch hF) (fun S w h => Reps.nil _ _ _) (by simp)) ?_
    rintro _ rfl
    refine WA.two 3 4 (by kernel_rfl) ?_ ?_
    ·
     refine WO.loud rfl (.take 1 rfl (.u 3 rfl (.nil))) (Ld.appendRd (e := kBool) (xs := []) (ys := q) Tryz.underlying26 ti4 rfl (by decide) (by decide) rfl rfl (by first | omega | (simp; omega))) trivial rfl (by rintro _ _ ⟨A_16, c_16, rfl, rfl⟩; exact ⟨_, (.take 2 rfl (.take 2 rfl (.u 2 rfl (.u 3 rfl (.u 4 rfl (.nil))))))⟩) ?_
     rintro _ _ ⟨A_16, c_16, rfl, rfl⟩
     refine WA.one 4 (by kernel_rfl) ?_
     refine WO.loud rfl (.nil) (Ld.buildEmpty Tryz.underlying26 ti4) trivial rfl (by rintro _ _ ⟨b_14, rfl, rfl⟩; exact ⟨_, (.take 3 rfl (.take 3 rfl (.u 3 rfl (.u 4 rfl (.u 5 rfl (.nil))))))⟩) ?_
     rintro _ _ ⟨b_14, rfl, rfl⟩
     refine WA.turn (.take 0 rfl (.nil)) (blk_row (e := kBool) (U := []) [] (fun F hF => nomatch hF) (fun S w h => Reps.nil _ _ _) (by simp)) ?_
     rintro _ rfl
     refine WA.one 7 (by kernel_rfl) ?_
     refine WO.loud rfl (.take 0 rfl (.u 5 rfl (.nil))) (Ld.appendRd (e := kBool) (xs := []) (ys := m) Tryz.underlying26 ti4 rfl (by decide) (by decide) rfl rfl (by first | omega | (simp; omega))) trivial rfl (by rintro _ _ ⟨A_17, c_17, rfl, rfl⟩; exact ⟨_, (.take 3 rfl (.take 3 rfl (.u 3 rfl (.u 4 rfl (.u 5 rfl (.nil))))))⟩) ?_
     rintro _ _ ⟨A_17, c_17, rfl, rfl⟩
     refine WA.one 11 (by kernel_rfl) ?_
     refine WO.loud rfl (.take 2 rfl (.u 6 rfl (.nil))) (Ld.appendRd (e := kBool) (xs := []) (ys := e) Tryz.underlying26 ti4 rfl (by decide) (by decide) rfl rfl (by first | omega | (simp; omega))) trivial rfl (by rintro _ _ ⟨A_18, c_18, rfl, rfl⟩; exact ⟨_, (.take 3 rfl (.take 3 rfl (.u 3 rfl (.u 4 rfl (.u 5 rfl (.nil))))))⟩) ?_
     rintro _ _ ⟨A_18, c_18, rfl, rfl⟩
     refine WA.named (.take 3 rfl (.take 3 rfl (.u 3 rfl (.u 4 rfl (.u 5 rfl (.nil)))))) fun sl_8 => ?_
     refine WA.tk 12 (by kernel_rfl) rfl hC (Qt.build tp28 ti28 rfl rfl rfl) trivial rfl sl_8 ?_
     refine WA.phase (K' := [0, 1, 2, 3, 4, 5, 6, 7, 8, 9, 10, 11, 12, 13]) (Γq' := [row kBool 4 A_18 c_18 ([] ++ e), row kBool 4 A_17 c_17 ([] ++ m), row kBool 4 A_16 c_16 ([] ++ q), blk b_1 28 [.slice QA q.length cq, .slice MA m.length cm, .slice EA e.length ce], rd kBool QA cq q, rd kBool MA cm m, rd kBool EA ce e]) (by kernel_rfl) ?_
     refine WA.one 13 (by kernel_rfl) ?_
     refine WO.loud rfl (.take 3 rfl (.nil)) (Ld.store ti28 rfl rfl rfl rfl rfl rfl) trivial rfl (by rintro _ _ rfl; exact ⟨_, (.take 1 rfl (.take 1 rfl (.take 1 rfl (.take 1 rfl (.u 1 rfl (.u 2 rfl (.u 3 rfl (.nil))))))))⟩) ?_
     rintro _ _ rfl
     refine WA.done (by kernel_rfl) ?_
     exact WX.cut (A_16, c_16, A_17, c_17, A_18, c_18) trivial ⟨rfl, trivial⟩ (.take 0 rfl (.take 0 rfl (.take 0 rfl (.take 0 rfl (.take 0 rfl (.u 0 rfl (.u 1 rfl (.u 2 rfl (.nil)))))))))
    ·
     refine WO.loud rfl (.nil) (Ld.buildEmpty Tryz.underlying26 ti4) trivial rfl (by rintro _ _ ⟨b_15, rfl, rfl⟩; exact ⟨_, (.take 3 rfl (.take 3 rfl (.u 3 rfl (.u 4 rfl (.u 5 rfl (.nil))))))⟩) ?_
     rintro _ _ ⟨b_15, rfl, rfl⟩
     refine WA.turn (.take 0 rfl (.nil)) (blk_row (e := kBool) (U := []) [] (fun F hF => nomatch hF) (fun S w h => Reps.nil _ _ _) (by simp)) ?_
     rintro _ rfl
     refine WA.one 3 (by kernel_rfl) ?_
     refine WO.loud rfl (.take 2 rfl (.u 4 rfl (.nil))) (Ld.appendRd (e := kBool) (xs := []) (ys := q) Tryz.underlying26 ti4 rfl (by decide) (by decide) rfl rfl (by first | omega | (simp; omega))) trivial rfl (by rintro _ _ ⟨A_19, c_19, rfl, rfl⟩; exact ⟨_, (.take 3 rfl (.take 3 rfl (.u 3 rfl (.u 4 rfl (.u 5 rfl (.nil))))))⟩) ?_
     rintro _ _ ⟨A_19, c_19, rfl, rfl⟩
     refine WA.one 7 (by kernel_rfl) ?_
     refine WO.loud rfl (.take 1 rfl (.u 5 rfl (.nil))) (Ld.appendRd (e := kBool) (xs := []) (ys := m) Tryz.underlying26 ti4 rfl (by decide) (by decide) rfl rfl (by first | omega | (simp; omega))) trivial rfl (by rintro _ _ ⟨A_20, c_20, rfl, rfl⟩; exact ⟨_, (.take 3 rfl (.take 3 rfl (.u 3 rfl (.u 4 rfl (.u 5 rfl (.nil))))))⟩) ?_
     rintro _ _ ⟨A_20, c_20, rfl, rfl⟩
     refine WA.one 11 (by kernel_rfl) ?_
     refine WO.loud rfl (.take 2 rfl (.u 6 rfl (.nil))) (Ld.appendRd (e := kBool) (xs := []) (ys := e) Tryz.underlying26 ti4 rfl (by decide) (by decide) rfl rfl (by first | omega | (simp; omega))) trivial rfl (by rintro _ _ ⟨A_21, c_21, rfl, rfl⟩; exact ⟨_, (.take 3 rfl (.take 3 rfl (.u 3 rfl (.u 4 rfl (.u 5 rfl (.nil))))))⟩) ?_
     rintro _ _ ⟨A_21, c_21, rfl, rfl⟩
     refine WA.named (.take 3 rfl (.take 3 rfl (.u 3 rfl (.u 4 rfl (.u 5 rfl (.nil)))))) fun sl_9 => ?_
     refine WA.tk 12 (by kernel_rfl) rfl hC (Qt.build tp28 ti28 rfl rfl rfl) trivial rfl sl_9 ?_
     refine WA.phase (K' := [0, 1, 2, 3, 4, 5, 6, 7, 8, 9, 10, 11, 12, 13]) (Γq' := [row kBool 4 A_21 c_21 ([] ++ e), row kBool 4 A_20 c_20 ([] ++ m), row kBool 4 A_19 c_19 ([] ++ q), blk b_1 28 [.slice QA q.length cq, .slice MA m.length cm, .slice EA e.length ce], rd kBool QA cq q, rd kBool MA cm m, rd kBool EA ce e]) (by kernel_rfl) ?_
     refine WA.one 13 (by kernel_rfl) ?_
     refine WO.loud rfl (.take 3 rfl (.nil)) (Ld.store ti28 rfl rfl rfl rfl rfl rfl) trivial rfl (by rintro _ _ rfl; exact ⟨_, (.take 1 rfl (.take 1 rfl (.take 1 rfl (.take 1 rfl (.u 1 rfl (.u 2 rfl (.u 3 rfl (.nil))))))))⟩) ?_
     rintro _ _ rfl
     refine WA.done (by kernel_rfl) ?_
     exact WX.cut (A_19, c_19, A_20, c_20, A_21, c_21) trivial ⟨rfl, trivial⟩ (.take 0 rfl (.take 0 rfl (.take 0 rfl (.take 0 rfl (.take 0 rfl (.u 0 rfl (.u 1 rfl (.u 2 rfl (.nil)))))))))
  ·
   refine WO.loud rfl (.nil) (Ld.buildEmpty Tryz.underlying26 ti4) trivial rfl (by rintro _ _ ⟨b_16, rfl, rfl⟩; exact ⟨_, (.take 1 rfl (.take 1 rfl (.u 1 rfl (.u 2 rfl (.u 3 rfl (.nil))))))⟩) ?_
   rintro _ _ ⟨b_16, rfl, rfl⟩
   refine WA.turn (.take 0 rfl (.nil)) (blk_row (e := kBool) (U := []) [] (fun F hF => nomatch hF) (fun S w h => Reps.nil _ _ _) (by simp)) ?_
   rintro _ rfl
   refine WA.two 0 8 (by kernel_rfl) ?_ ?_
   ·
    refine WO.loud rfl (.nil) (Ld.buildEmpty Tryz.underlying26 ti4) trivial rfl (by rintro _ _ ⟨b_17, rfl, rfl⟩; exact ⟨_, (.take 2 rfl (.take 2 rfl (.u 2 rfl (.u 3 rfl (.u 4 rfl (.nil))))))⟩) ?_
    rintro _ _ ⟨b_17, rfl, rfl⟩
    refine WA.turn (.take 0 rfl (.nil)) (blk_row (e := kBool) (U := []) [] (fun F hF => nomatch hF) (fun S w h => Reps.nil _ _ _) (by simp)) ?_
    rintro _ rfl
    refine WA.two 3 8 (by kernel_rfl) ?_ ?_
    ·
     refine WO.loud rfl (.take 0 rfl (.u 3 rfl (.nil))) (Ld.appendRd (e := kBool) (xs := []) (ys := q) Tryz.underlying26 ti4 rfl (by decide) (by decide) rfl rfl (by first | omega | (simp; omega))) trivial rfl (by rintro _ _ ⟨A_22, c_22, rfl, rfl⟩; exact ⟨_, (.take 2 rfl (.take 2 rfl (.u 2 rfl (.u 3 rfl (.u 4 rfl (.nil))))))⟩) ?_
     rintro _ _ ⟨A_22, c_22, rfl, rfl⟩
     refine WA.two 7 8 (by kernel_rfl) ?_ ?_
     ·
      refine WO.loud rfl (.take 1 rfl (.u 4 rfl (.nil))) (Ld.appendRd (e := kBool) (xs := []) (ys := m) Tryz.underlying26 ti4 rfl (by decide) (by decide) rfl rfl (by first | omega | (simp; omega))) trivial rfl (by rintro _ _ ⟨A_23, c_23, rfl, rfl⟩; exact ⟨_, (.take 2 rfl (.take 2 rfl (.u 2 rfl (.u 3 rfl (.u 4 rfl (.nil))))))⟩) ?_
      rintro _ _ ⟨A_23, c_23, rfl, rfl⟩
      refine WA.one 8 (by kernel_rfl) ?_
      refine WO.loud rfl (.nil) (Ld.buildEmpty Tryz.underlying26 ti4) trivial rfl (by rintro _ _ ⟨b_18, rfl, rfl⟩; exact ⟨_, (.take 3 rfl (.take 3 rfl (.u 3 rfl (.u 4 rfl (.u 5 rfl (.nil))))))⟩) ?_
      rintro _ _ ⟨b_18, rfl, rfl⟩
      refine WA.turn (.take 0 rfl (.nil)) (blk_row (e := kBool) (U := []) [] (fun F hF => nomatch hF) (fun S w h => Reps.nil _ _ _) (by simp)) ?_
      rintro _ rfl
      refine WA.one 11 (by kernel_rfl) ?_
      refine WO.loud rfl (.take 0 rfl (.u 6 rfl (.nil))) (Ld.appendRd (e := kBool) (xs := []) (ys := e) Tryz.underlying26 ti4 rfl (by decide) (by decide) rfl rfl (by first | omega | (simp; omega))) trivial rfl (by rintro _ _ ⟨A_24, c_24, rfl, rfl⟩; exact ⟨_, (.take 3 rfl (.take 3 rfl (.u 3 rfl (.u 4 rfl (.u 5 rfl (.nil))))))⟩) ?_
      rintro _ _ ⟨A_24, c_24, rfl, rfl⟩
      refine WA.named (.take 3 rfl (.take 3 rfl (.u 3 rfl (.u 4 rfl (.u 5 rfl (.nil)))))) fun sl_10 => ?_
      refine WA.tk 12 (by kernel_rfl) rfl hC (Qt.build tp28 ti28 rfl rfl rfl) trivial rfl sl_10 ?_
      refine WA.phase (K' := [0, 1, 2, 3, 4, 5, 6, 7, 8, 9, 10, 11, 12, 13]) (Γq' := [row kBool 4 A_24 c_24 ([] ++ e), row kBool 4 A_23 c_23 ([] ++ m), row kBool 4 A_22 c_22 ([] ++ q), blk b_1 28 [.slice QA q.length cq, .slice MA m.length cm, .slice EA e.length ce], rd kBool QA cq q, rd kBool MA cm m, rd kBool EA ce e]) (by kernel_rfl) ?_
      refine WA.one 13 (by kernel_rfl) ?_
      refine WO.loud rfl (.take 3 rfl (.nil)) (Ld.store ti28 rfl rfl rfl rfl rfl rfl) trivial rfl (by rintro _ _ rfl; exact ⟨_, (.take 1 rfl (.take 1 rfl (.take 1 rfl (.take 1 rfl (.u 1 rfl (.u 2 rfl (.u 3 rfl (.nil))))))))⟩) ?_
      rintro _ _ rfl
      refine WA.done (by kernel_rfl) ?_
      exact WX.cut (A_22, c_22, A_23, c_23, A_24, c_24) trivial ⟨rfl, trivial⟩ (.take 0 rfl (.take 0 rfl (.take 0 rfl (.take 0 rfl (.take 0 rfl (.u 0 rfl (.u 1 rfl (.u 2 rfl (.nil)))))))))
     ·
      refine WO.loud rfl (.nil) (Ld.buildEmpty Tryz.underlying26 ti4) trivial rfl (by rintro _ _ ⟨b_19, rfl, rfl⟩; exact ⟨_, (.take 3 rfl (.take 3 rfl (.u 3 rfl (.u 4 rfl (.u 5 rfl (.nil))))))⟩) ?_
      rintro _ _ ⟨b_19, rfl, rfl⟩
      refine WA.turn (.take 0 rfl (.nil)) (blk_row (e := kBool) (U := []) [] (fun F hF => nomatch hF) (fun S w h => Reps.nil _ _ _) (by simp)) ?_
      rintro _ rfl
      refine WA.one 7 (by kernel_rfl) ?_
      refine WO.loud rfl (.take 2 rfl (.u 5 rfl (.nil))) (Ld.appendRd (e := kBool) (xs := []) (ys := m) Tryz.underlying26 ti4 rfl (by decide) (by decide) rfl rfl (by first | omega | (simp; omega))) trivial rfl (by rintro _ _ ⟨A_25, c_25, rfl, rfl⟩; exact ⟨_, (.take 3 rfl (.take 3 rfl (.u 3 rfl (.u 4 rfl (.u 5 rfl (.nil))))))⟩) ?_
      rintro _ _ ⟨A_25, c_25, rfl, rfl⟩
      refine WA.one 11 (by kernel_rfl) ?_
      refine WO.loud rfl (.take 1 rfl (.u 6 rfl (.nil))) (Ld.appendRd (e := kBool) (xs := []) (ys := e) Tryz.underlying26 ti4 rfl (by decide) (by decide) rfl rfl (by first | omega | (simp; omega))) trivial rfl (by rintro _ _ ⟨A_26, c_26, rfl, rfl⟩; exact ⟨_, (.take 3 rfl (.take 3 rfl (.u 3 rfl (.u 4 rfl (.u 5 rfl (.nil))))))⟩) ?_
      rintro _ _ ⟨A_26, c_26, rfl, rfl⟩
      refine WA.named (.take 3 rfl (.take 3 rfl (.u 3 rfl (.u 4 rfl (.u 5 rfl (.nil)))))) fun sl_11 => ?_
      refine WA.tk 12 (by kernel_rfl) rfl hC (Qt.build tp28 ti28 rfl rfl rfl) trivial rfl sl_11 ?_
      refine WA.phase (K' := [0, 1, 2, 3, 4, 5, 6, 7, 8, 9, 10, 11, 12, 13]) (Γq' := [row kBool 4 A_26 c_26 ([] ++ e), row kBool 4 A_25 c_25 ([] ++ m), row kBool 4 A_22 c_22 ([] ++ q), blk b_1 28 [.slice QA q.length cq, .slice MA m.length cm, .slice EA e.length ce], rd kBool QA cq q, rd kBool MA cm m, rd kBool EA ce e]) (by kernel_rfl) ?_
      refine WA.one 13 (by kernel_rfl) ?_
      refine WO.loud rfl (.take 3 rfl (.nil)) (Ld.store ti28 rfl rfl rfl rfl rfl rfl) trivial rfl (by rintro _ _ rfl; exact ⟨_, (.take 1 rfl (.take 1 rfl (.take 1 rfl (.take 1 rfl (.u 1 rfl (.u 2 rfl (.u 3 rfl (.nil))))))))⟩) ?_
      rintro _ _ rfl
      refine WA.done (by kernel_rfl) ?_
      exact WX.cut (A_22, c_22, A_25, c_25, A_26, c_26) trivial ⟨rfl, trivial⟩ (.take 0 rfl (.take 0 rfl (.take 0 rfl (.take 0 rfl (.take 0 rfl (.u 0 rfl (.u 1 rfl (.u 2 rfl (.nil)))))))))
    ·
     refine WO.loud rfl (.nil) (Ld.buildEmpty Tryz.underlying26 ti4) trivial rfl (by rintro _ _ ⟨b_20, rfl, rfl⟩; exact ⟨_, (.take 3 rfl (.take 3 rfl (.u 3 rfl (.u 4 rfl (.u 5 rfl (.nil))))))⟩) ?_
     rintro _ _ ⟨b_20, rfl, rfl⟩
     refine WA.turn (.take 0 rfl (.nil)) (blk_row (e := kBool) (U := []) [] (fun F hF => nomatch hF) (fun S w h => Reps.nil _ _ _) (by simp)) ?_
     rintro _ rfl
     refine WA.one 3 (by kernel_rfl) ?_
     refine WO.loud rfl (.take 1 rfl (.u 4 rfl (.nil))) (Ld.appendRd (e := kBool) (xs := []) (ys := q) Tryz.underlying26 ti4 rfl (by decide) (by decide) rfl rfl (by first | omega | (simp; omega))) trivial rfl (by rintro _ _ ⟨A_27, c_27, rfl, rfl⟩; exact ⟨_, (.take 3 rfl (.take 3 rfl (.u 3 rfl (.u 4 rfl (.u 5 rfl (.nil))))))⟩) ?_
     rintro _ _ ⟨A_27, c_27, rfl, rfl⟩
     refine WA.one 7 (by kernel_rfl) ?_
     refine WO.loud rfl (.take 2 rfl (.u 5 rfl (.nil))) (Ld.appendRd (e := kBool) (xs := []) (ys := m) Tryz.underlying26 ti4 rfl (by decide) (by decide) rfl rfl (by first | omega | (simp; omega))) trivial rfl (by rintro _ _ ⟨A_28, c_28, rfl, rfl⟩; exact ⟨_, (.take 3 rfl (.take 3 rfl (.u 3 rfl (.u 4 rfl (.u 5 rfl (.nil))))))⟩) ?_
     rintro _ _ ⟨A_28, c_28, rfl, rfl⟩
     refine WA.one 11 (by kernel_rfl) ?_
     refine WO.loud rfl (.take 2 rfl (.u 6 rfl (.nil))) (Ld.appendRd (e := kBool) (xs := []) (ys := e) Tryz.underlying26 ti4 rfl (by decide) (by decide) rfl rfl (by first | omega | (simp; omega))) trivial rfl (by rintro _ _ ⟨A_29, c_29, rfl, rfl⟩; exact ⟨_, (.take 3 rfl (.take 3 rfl (.u 3 rfl (.u 4 rfl (.u 5 rfl (.nil))))))⟩) ?_
     rintro _ _ ⟨A_29, c_29, rfl, rfl⟩
     refine WA.named (.take 3 rfl (.take 3 rfl (.u 3 rfl (.u 4 rfl (.u 5 rfl (.nil)))))) fun sl_12 => ?_
     refine WA.tk 12 (by kernel_rfl) rfl hC (Qt.build tp28 ti28 rfl rfl rfl) trivial rfl sl_12 ?_
     refine WA.phase (K' := [0, 1, 2, 3, 4, 5, 6, 7, 8, 9, 10, 11, 12, 13]) (Γq' := [row kBool 4 A_29 c_29 ([] ++ e), row kBool 4 A_28 c_28 ([] ++ m), row kBool 4 A_27 c_27 ([] ++ q), blk b_1 28 [.slice QA q.length cq, .slice MA m.length cm, .slice EA e.length ce], rd kBool QA cq q, rd kBool MA cm m, rd kBool EA ce e]) (by kernel_rfl) ?_
     refine WA.one 13 (by kernel_rfl) ?_
     refine WO.loud rfl (.take 3 rfl (.nil)) (Ld.store ti28 rfl rfl rfl rfl rfl rfl) trivial rfl (by rintro _ _ rfl; exact ⟨_, (.take 1 rfl (.take 1 rfl (.take 1 rfl (.take 1 rfl (.u 1 rfl (.u 2 rfl (.u 3 rfl (.nil))))))))⟩) ?_
     rintro _ _ rfl
     refine WA.done (by kernel_rfl) ?_
     exact WX.cut (A_27, c_27, A_28, c_28, A_29, c_29) trivial ⟨rfl, trivial⟩ (.take 0 rfl (.take 0 rfl (.take 0 rfl (.take 0 rfl (.take 0 rfl (.u 0 rfl (.u 1 rfl (.u 2 rfl (.nil)))))))))
   ·
    refine WO.loud rfl (.nil) (Ld.buildEmpty Tryz.underlying26 ti4) trivial rfl (by rintro _ _ ⟨b_21, rfl, rfl⟩; exact ⟨_, (.take 2 rfl (.take 2 rfl (.u 2 rfl (.u 3 rfl (.u 4 rfl (.nil))))))⟩) ?_
    rintro _ _ ⟨b_21, rfl, rfl⟩
    refine WA.turn (.take 0 rfl (.nil)) (blk_row (e := kBool) (U := []) [] (fun F hF => nomatch hF) (fun S w h => Reps.nil _ _ _) (by simp)) ?_
    rintro _ rfl
    refine WA.one 0 (by kernel_rfl) ?_
    refine WO.loud rfl (.nil) (Ld.buildEmpty Tryz.underlying26 ti4) trivial rfl (by rintro _ _ ⟨b_22, rfl, rfl⟩; exact ⟨_, (.take 3 rfl (.take 3 rfl (.u 3 rfl (.u 4 rfl (.u 5 rfl (.nil))))))⟩) ?_
    rintro _ _ ⟨b_22, rfl, rfl⟩
    refine WA.turn (.take 0 rfl (.nil)) (blk_row (e := kBool) (U := []) [] (fun F hF => nomatch hF) (fun S w h => Reps.nil _ _ _) (by simp)) ?_
    rintro _ rfl
    refine WA.one 3 (by kernel_rfl) ?_
    refine WO.loud rfl (.take 0 rfl (.u 4 rfl (.nil))) (Ld.appendRd (e := kBool) (xs := []) (ys := q) Tryz.underlying26 ti4 rfl (by decide) (by decide) rfl rfl (by first | omega | (simp; omega))) trivial rfl (by rintro _ _ ⟨A_30, c_30, rfl, rfl⟩; exact ⟨_, (.take 3 rfl (.take 3 rfl (.u 3 rfl (.u 4 rfl (.u 5 rfl (.nil))))))⟩) ?_
    rintro _ _ ⟨A_30, c_30, rfl, rfl⟩
    refine WA.one 7 (by kernel_rfl) ?_
    refine WO.loud rfl (.take 2 rfl (.u 5 rfl (.nil))) (Ld.appendRd (e := kBool) (xs := []) (ys := m) Tryz.underlying26 ti4 rfl (by decide) (by decide) rfl rfl (by first | omega | (simp; omega))) trivial rfl (by rintro _ _ ⟨A_31, c_31, rfl, rfl⟩; exact ⟨_, (.take 3 rfl (.take 3 rfl (.u 3 rfl (.u 4 rfl (.u 5 rfl (.nil))))))⟩) ?_
    rintro _ _ ⟨A_31, c_31, rfl, rfl⟩
    refine WA.one 11 (by kernel_rfl) ?_
    refine WO.loud rfl (.take 2 rfl (.u 6 rfl (.nil))) (Ld.appendRd (e := kBool) (xs := []) (ys := e) Tryz.underlying26 ti4 rfl (by decide) (by decide) rfl rfl (by first | omega | (simp; omega))) trivial rfl (by rintro _ _ ⟨A_32, c_32, rfl, rfl⟩; exact ⟨_, (.take 3 rfl (.take 3 rfl (.u 3 rfl (.u 4 rfl (.u 5 rfl (.nil))))))⟩) ?_
    rintro _ _ ⟨A_32, c_32, rfl, rfl⟩
    refine WA.named (.take 3 rfl (.take 3 rfl (.u 3 rfl (.u 4 rfl (.u 5 rfl (.nil)))))) fun sl_13 => ?_
    refine WA.tk 12 (by kernel_rfl) rfl hC (Qt.build tp28 ti28 rfl rfl rfl) trivial rfl sl_13 ?_
    refine WA.phase (K' := [0, 1, 2, 3, 4, 5, 6, 7, 8, 9, 10, 11, 12, 13]) (Γq' := [row kBool 4 A_32 c_32 ([] ++ e), row kBool 4 A_31 c_31 ([] ++ m), row kBool 4 A_30 c_30 ([] ++ q), blk b_1 28 [.slice QA q.length cq, .slice MA m.length cm, .slice EA e.length ce], rd kBool QA cq q, rd kBool MA cm m, rd kBool EA ce e]) (by kernel_rfl) ?_
    refine WA.one 13 (by kernel_rfl) ?_
    refine WO.loud rfl (.take 3 rfl (.nil)) (Ld.store ti28 rfl rfl rfl rfl rfl rfl) trivial rfl (by rintro _ _ rfl; exact ⟨_, (.take 1 rfl (.take 1 rfl (.take 1 rfl (.take 1 rfl (.u 1 rfl (.u 2 rfl (.u 3 rfl (.nil))))))))⟩) ?_
    rintro _ _ rfl
    refine WA.done (by kernel_rfl) ?_
    exact WX.cut (A_30, c_30, A_31, c_31, A_32, c_32) trivial ⟨rfl, trivial⟩ (.take 0 rfl (.take 0 rfl (.take 0 rfl (.take 0 rfl (.take 0 rfl (.u 0 rfl (.u 1 rfl (.u 2 rfl (.nil)))))))))
  ·
   refine WO.loud rfl (.nil) (Ld.buildEmpty Tryz.underlying26 ti4) trivial rfl (by rintro _ _ ⟨b_23, rfl, rfl⟩; exact ⟨_, (.take 1 rfl (.take 1 rfl (.u 1 rfl (.u 2 rfl (.u 3 rfl (.nil))))))⟩) ?_
   rintro _ _ ⟨b_23, rfl, rfl⟩
   refine WA.turn (.take 0 rfl (.nil)) (blk_row (e := kBool) (U := []) [] (fun F hF => nomatch hF) (fun S w h => Reps.nil _ _ _) (by simp)) ?_
   rintro _ rfl
   refine WA.two 0 4 (by kernel_rfl) ?_ ?_
   ·
    refine WO.loud rfl (.nil) (Ld.buildEmpty Tryz.underlying26 ti4) trivial rfl (by rintro _ _ ⟨b_24, rfl, rfl⟩; exact ⟨_, (.take 2 rfl (.take 2 rfl (.u 2 rfl (.u 3 rfl (.u 4 rfl (.nil))))))⟩) ?_
    rintro _ _ ⟨b_24, rfl, rfl⟩
    refine WA.turn (.take 0 rfl (.nil)) (blk_row (e := kBool) (U := []) [] (fun F hF => nomatch hF) (fun S w h => Reps.nil _ _ _) (by simp)) ?_
    rintro _ rfl
    refine WA.two 3 4 (by kernel_rfl) ?_ ?_
    ·
     refine WO.loud rfl (.take 0 rfl (.u 3 rfl (.nil))) (Ld.appendRd (e := kBool) (xs := []) (ys := q) Tryz.underlying26 ti4 rfl (by decide) (by decide) rfl rfl (by first | omega | (simp; omega))) trivial rfl (by rintro _ _ ⟨A_33, c_33, rfl, rfl⟩; exact ⟨_, (.take 2 rfl (.take 2 rfl (.u 2 rfl (.u 3 rfl (.u 4 rfl (.nil))))))⟩) ?_
     rintro _ _ ⟨A_33, c_33, rfl, rfl⟩
     refine WA.one 4 (by kernel_rfl) ?_
     refine WO.loud rfl (.nil) (Ld.buildEmpty Tryz.underlying26 ti4) trivial rfl (by rintro _ _ ⟨b_25, rfl, rfl⟩; exact ⟨_, (.take 3 rfl (.take 3 rfl (.u 3 rfl (.u 4 rfl (.u 5 rfl (.nil))))))⟩) ?_
     rintro _ _ ⟨b_25, rfl, rfl⟩
     refine WA.turn (.take 0 rfl (.nil)) (blk_row (e := kBool) (U := []) [] (fun F hF => nomatch hF) (fun S w h => Reps.nil _ _ _) (by simp)) ?_
     rintro _ rfl
     refine WA.one 7 (by kernel_rfl) ?_
     refine WO.loud rfl (.take 0 rfl (.u 5 rfl (.nil))) (Ld.appendRd (e := kBool) (xs := []) (ys := m) Tryz.underlying26 ti4 rfl (by decide) (by decide) rfl rfl (by first | omega | (simp; omega))) trivial rfl (by rintro _ _ ⟨A_34, c_34, rfl, rfl⟩; exact ⟨_, (.take 3 rfl (.take 3 rfl (.u 3 rfl (.u 4 rfl (.u 5 rfl (.nil))))))⟩) ?_
     rintro _ _ ⟨A_34, c_34, rfl, rfl⟩
     refine WA.one 11 (by kernel_rfl) ?_
     refine WO.loud rfl (.take 2 rfl (.u 6 rfl (.nil))) (Ld.appendRd (e := kBool) (xs := []) (ys := e) Tryz.underlying26 ti4 rfl (by decide) (by decide) rfl rfl (by first | omega | (simp; omega))) trivial rfl (by rintro _ _ ⟨A_35, c_35, rfl, rfl⟩; exact ⟨_, (.take 3 rfl (.take 3 rfl (.u 3 rfl (.u 4 rfl (.u 5 rfl (.nil))))))⟩) ?_
     rintro _ _ ⟨A_35, c_35, rfl, rfl⟩
     refine WA.named (.take 3 rfl (.take 3 rfl (.u 3 rfl (.u 4 rfl (.u 5 rfl (.nil)))))) fun sl_14 => ?_
     refine WA.tk 12 (by kernel_rfl) rfl hC (Qt.build tp28 ti28 rfl rfl rfl) trivial rfl sl_14 ?_
     refine WA.phase (K' := [0, 1, 2, 3, 4, 5, 6, 7, 8, 9, 10, 11, 12, 13]) (Γq' := [row kBool 4 A_35 c_35 ([] ++ e), row kBool 4 A_34 c_34 ([] ++ m), row kBool 4 A_33 c_33 ([] ++ q), blk b_1 28 [.slice QA q.length cq, .slice MA m.length cm, .slice EA e.length ce], rd kBool QA cq q, rd kBool MA cm m, rd kBool EA ce e]) (by kernel_rfl) ?_
     refine WA.one 13 (by kernel_rfl) ?_
     refine WO.loud rfl (.take 3 rfl (.nil)) (Ld.store ti28 rfl rfl rfl rfl rfl rfl) trivial rfl (by rintro _ _ rfl; exact ⟨_, (.take 1 rfl (.take 1 rfl (.take 1 rfl (.take 1 rfl (.u 1 rfl (.u 2 rfl (.u 3 rfl (.nil))))))))⟩) ?_
     rintro _ _ rfl
     refine WA.done (by kernel_rfl) ?_
     exact WX.cut (A_33, c_33, A_34, c_34, A_35, c_35) trivial ⟨rfl, trivial⟩ (.take 0 rfl (.take 0 rfl (.take 0 rfl (.take 0 rfl (.take 0 rfl (.u 0 rfl (.u 1 rfl (.u 2 rfl (.nil)))))))))
    ·
     refine WO.loud rfl (.nil) (Ld.buildEmpty Tryz.underlying26 ti4) trivial rfl (by rintro _ _ ⟨b_26, rfl, rfl⟩; exact ⟨_, (.take 3 rfl (.take 3 rfl (.u 3 rfl (.u 4 rfl (.u 5 rfl (.nil))))))⟩) ?_
     rintro _ _ ⟨b_26, rfl, rfl⟩
     refine WA.turn (.take 0 rfl (.nil)) (blk_row (e := kBool) (U := []) [] (fun F hF => nomatch hF) (fun S w h => Reps.nil _ _ _) (by simp)) ?_
     rintro _ rfl
     refine WA.one 3 (by kernel_rfl) ?_
     refine WO.loud rfl (.take 1 rfl (.u 4 rfl (.nil))) (Ld.appendRd (e := kBool) (xs := []) (ys := q) Tryz.underlying26 ti4 rfl (by decide) (by decide) rfl rfl (by first | omega | (simp; omega))) trivial rfl (by rintro _ _ ⟨A_36, c_36, rfl, rfl⟩; exact ⟨_, (.take 3 rfl (.take 3 rfl (.u 3 rfl (.u 4 rfl (.u 5 rfl (.nil))))))⟩) ?_
     rintro _ _ ⟨A_36, c_36, rfl, rfl⟩
     refine WA.one 7 (by kernel_rfl) ?_
     refine WO.loud rfl (.take 1 rfl (.u 5 rfl (.nil))) (Ld.appendRd (e := kBool) (xs := []) (ys := m) Tryz.underlying26 ti4 rfl (by decide) (by decide) rfl rfl (by first | omega | (simp; omega))) trivial rfl (by rintro _ _ ⟨A_37, c_37, rfl, rfl⟩; exact ⟨_, (.take 3 rfl (.take 3 rfl (.u 3 rfl (.u 4 rfl (.u 5 rfl (.nil))))))⟩) ?_
     rintro _ _ ⟨A_37, c_37, rfl, rfl⟩
     refine WA.one 11 (by kernel_rfl) ?_
     refine WO.loud rfl (.take 2 rfl (.u 6 rfl (.nil))) (Ld.appendRd (e := kBool) (xs := []) (ys := e) Tryz.underlying26 ti4 rfl (by decide) (by decide) rfl rfl (by first | omega | (simp; omega))) trivial rfl (by rintro _ _ ⟨A_38, c_38, rfl, rfl⟩; exact ⟨_, (.take 3 rfl (.take 3 rfl (.u 3 rfl (.u 4 rfl (.u 5 rfl (.nil))))))⟩) ?_
     rintro _ _ ⟨A_38, c_38, rfl, rfl⟩
     refine WA.named (.take 3 rfl (.take 3 rfl (.u 3 rfl (.u 4 rfl (.u 5 rfl (.nil)))))) fun sl_15 => ?_
     refine WA.tk 12 (by kernel_rfl) rfl hC (Qt.build tp28 ti28 rfl rfl rfl) trivial rfl sl_15 ?_
     refine WA.phase (K' := [0, 1, 2, 3, 4, 5, 6, 7, 8, 9, 10, 11, 12, 13]) (Γq' := [row kBool 4 A_38 c_38 ([] ++ e), row kBool 4 A_37 c_37 ([] ++ m), row kBool 4 A_36 c_36 ([] ++ q), blk b_1 28 [.slice QA q.length cq, .slice MA m.length cm, .slice EA e.length ce], rd kBool QA cq q, rd kBool MA cm m, rd kBool EA ce e]) (by kernel_rfl) ?_
     refine WA.one 13 (by kernel_rfl) ?_
     refine WO.loud rfl (.take 3 rfl (.nil)) (Ld.store ti28 rfl rfl rfl rfl rfl rfl) trivial rfl (by rintro _ _ rfl; exact ⟨_, (.take 1 rfl (.take 1 rfl (.take 1 rfl (.take 1 rfl (.u 1 rfl (.u 2 rfl (.u 3 rfl (.nil))))))))⟩) ?_
     rintro _ _ rfl
     refine WA.done (by kernel_rfl) ?_
     exact WX.cut (A_36, c_36, A_37, c_37, A_38, c_38) trivial ⟨rfl, trivial⟩ (.take 0 rfl (.take 0 rfl (.take 0 rfl (.take 0 rfl (.take 0 rfl (.u 0 rfl (.u 1 rfl (.u 2 rfl (.nil)))))))))
   ·
    refine WO.loud rfl (.nil) (Ld.buildEmpty Tryz.underlying26 ti4) trivial rfl (by rintro _ _ ⟨b_27, rfl, rfl⟩; exact ⟨_, (.take 2 rfl (.take 2 rfl (.u 2 rfl (.u 3 rfl (.u 4 rfl (.nil))))))⟩) ?_
    rintro _ _ ⟨b_27, rfl, rfl⟩
    refine WA.turn (.take 0 rfl (.nil)) (blk_row (e := kBool) (U := []) [] (fun F hF => nomatch hF) (fun S w h => Reps.nil _ _ _) (by simp)) ?_
    rintro _ rfl
    refine WA.one 0 (by kernel_rfl) ?_
    refine WO.loud rfl (.nil) (Ld.buildEmpty Tryz.underlying26 ti4) trivial rfl (by rintro _ _ ⟨b_28, rfl, rfl⟩; exact ⟨_, (.take 3 rfl (.take 3 rfl (.u 3 rfl (.u 4 rfl (.u 5 rfl (.nil))))))⟩) ?_
    rintro _ _ ⟨b_28, rfl, rfl⟩
    refine WA.turn (.take 0 rfl (.nil)) (blk_row (e := kBool) (U := []) [] (fun F hF => nomatch hF) (fun S w h => Reps.nil _ _ _) (by simp)) ?_
    rintro _ rfl
    refine WA.one 3 (by kernel_rfl) ?_
    refine WO.loud rfl (.take 0 rfl (.u 4 rfl (.nil))) (Ld.appendRd (e := kBool) (xs := []) (ys := q) Tryz.underlying26 ti4 rfl (by decide) (by decide) rfl rfl (by first | omega | (simp; omega))) trivial rfl (by rintro _ _ ⟨A_39, c_39, rfl, rfl⟩; exact ⟨_, (.take 3 rfl (.take 3 rfl (.u 3 rfl (.u 4 rfl (.u 5 rfl (.nil))))))⟩) ?_
    rintro _ _ ⟨A_39, c_39, rfl, rfl⟩
    refine WA.one 7 (by kernel_rfl) ?_
    refine WO.loud rfl (.take 1 rfl (.u 5 rfl (.nil))) (Ld.appendRd (e := kBool) (xs := []) (ys := m) Tryz.underlying26 ti4 rfl (by decide) (by decide) rfl rfl (by first | omega | (simp; omega))) trivial rfl (by rintro _ _ ⟨A_40, c_40, rfl, rfl⟩; exact ⟨_, (.take 3 rfl (.take 3 rfl (.u 3 rfl (.u 4 rfl (.u 5 rfl (.nil))))))⟩) ?_
    rintro _ _ ⟨A_40, c_40, rfl, rfl⟩
    refine WA.one 11 (by kernel_rfl) ?_
    refine WO.loud rfl (.take 2 rfl (.u 6 rfl (.nil))) (Ld.appendRd (e := kBool) (xs := []) (ys := e) Tryz.underlying26 ti4 rfl (by decide) (by decide) rfl rfl (by first | omega | (simp; omega))) trivial rfl (by rintro _ _ ⟨A_41, c_41, rfl, rfl⟩; exact ⟨_, (.take 3 rfl (.take 3 rfl (.u 3 rfl (.u 4 rfl (.u 5 rfl (.nil))))))⟩) ?_
    rintro _ _ ⟨A_41, c_41, rfl, rfl⟩
    refine WA.named (.take 3 rfl (.take 3 rfl (.u 3 rfl (.u 4 rfl (.u 5 rfl (.nil)))))) fun sl_16 => ?_
    refine WA.tk 12 (by kernel_rfl) rfl hC (Qt.build tp28 ti28 rfl rfl rfl) trivial rfl sl_16 ?_
    refine WA.phase (K' := [0, 1, 2, 3, 4, 5, 6, 7, 8, 9, 10, 11, 12, 13]) (Γq' := [row kBool 4 A_41 c_41 ([] ++ e), row kBool 4 A_40 c_40 ([] ++ m), row kBool 4 A_39 c_39 ([] ++ q), blk b_1 28 [.slice QA q.length cq, .slice MA m.length cm, .slice EA e.length ce], rd kBool QA cq q, rd kBool MA cm m, rd kBool EA ce e]) (by kernel_rfl) ?_
    refine WA.one 13 (by kernel_rfl) ?_
    refine WO.loud rfl (.take 3 rfl (.nil)) (Ld.store ti28 rfl rfl rfl rfl rfl rfl) trivial rfl (by rintro _ _ rfl; exact ⟨_, (.take 1 rfl (.take 1 rfl (.take 1 rfl (.take 1 rfl (.u 1 rfl (.u 2 rfl (.u 3 rfl (.nil))))))))⟩) ?_
    rintro _ _ rfl
    refine WA.done (by kernel_rfl) ?_
    exact WX.cut (A_39, c_39, A_40, c_40, A_41, c_41) trivial ⟨rfl, trivial⟩ (.take 0 rfl (.take 0 rfl (.take 0 rfl (.take 0 rfl (.take 0 rfl (.u 0 rfl (.u 1 rfl (.u 2 rfl (.nil)))))))))
 ·
  rintro ⟨A_1, c_1, A_2, c_2, A_3, c_3⟩ _
  show WC _ _ _ _ _ _ [(2, .pointer (some ⟨b_2, 0, none⟩))] [blk b_2 28 [.slice A_1 (([] ++ q).length) c_1, .slice A_2 (([] ++ m).length) c_2, .slice A_3 (([] ++ e).length) c_3], row kBool 4 A_3 c_3 ([] ++ e), row kBool 4 A_2 c_2 ([] ++ m), row kBool 4 A_1 c_1 ([] ++ q), blk b_1 28 [.slice QA q.length cq, .slice MA m.length cm, .slice EA e.length ce], rd kBool QA cq q, rd kBool MA cm m, rd kBool EA ce e]
  refine WC.ret ?_
  refine WX.retC 0 (.take 3 rfl (.take 2 rfl (.take 1 rfl (.nil)))) rfl rfl rfl ta28 ti28 rfl ?_
  exact ⟨A_1, c_1, A_2, c_2, A_3, c_3, by simp only [List.nil_append], by simp only [List.nil_append]⟩

end Go.Proofs.YtolggjmgfijjfaaGreatDoor.Sep

/- A walk, printed by gen.py out of hints. -/
namespace Go.Proofs.YtolggjmgfijjfaaGreatDoor.Sep
open Go
variable {μ : Prop}
theorem refReadW (inp q m : List Bool) (IA QA MA EA : Option Addr) (ci cq cm ne ce : Nat) (sp n : Int)  : Spec μ Tryz.prog 24 #[.slice IA inp.length ci, .agg [.slice QA q.length cq, .slice MA m.length cm, .slice EA ne ce].toArray, .agg [.int .i64 sp, .int .i64 n].toArray] [rd kBool IA ci inp, rd kBool QA cq q, rd kBool MA cm m] fun v Δ => v = .tuple [.bool ((Bits.mk inp q m).rd sp n).1, .int .i64 ((Bits.mk inp q m).rd sp n).2].toArray ∧ Δ = [] := by
 refine Spec.of_body (n := 37) Tryz.func24 rfl rfl rfl fun w0 S0 O0 => ?_
 show WC _ _ _ _ _ _ [(0, .slice IA inp.length ci), (1, .agg [.slice QA q.length cq, .slice MA m.length cm, .slice EA ne ce].toArray), (2, .agg [.int .i64 sp, .int .i64 n].toArray)] [rd kBool IA ci inp, rd kBool QA cq q, rd kBool MA cm m]
 refine WC.learn (Z := Unit) (Δ := fun _ => []) (φ := fun _ => inp.length ≤ ci ∧ ci ≤ 9223372036854775807) 0 rfl (fun S w h => ⟨(), rd_bounds h, nofacts⟩) ?_
 rintro _ ⟨hb_1, hb_2⟩
 refine WC.learn (Z := Unit) (Δ := fun _ => []) (φ := fun _ => q.length ≤ cq ∧ cq ≤ 9223372036854775807) 1 rfl (fun S w h => ⟨(), rd_bounds h, nofacts⟩) ?_
 rintro _ ⟨hb_3, hb_4⟩
 refine WC.learn (Z := Unit) (Δ := fun _ => []) (φ := fun _ => m.length ≤ cm ∧ cm ≤ 9223372036854775807) 2 rfl (fun S w h => ⟨(), rd_bounds h, nofacts⟩) ?_
 rintro _ ⟨hb_5, hb_6⟩
 refine WC.seq ?_
 refine WC.region ?_
 refine WL.loud (.nil) (Ld.box rfl rfl) trivial rfl ?_
 rintro _ _ ⟨b_1, rfl, rfl⟩
 refine WL.loud (.nil) (Ld.box rfl rfl) trivial rfl ?_
 rintro _ _ ⟨b_2, rfl, rfl⟩
 refine WL.quiet (Qt.assign rfl) rfl rfl ?_
 refine WL.quiet (Qt.assign rfl) rfl rfl ?_
 refine WL.nil ?_
 refine WX.next ?_
 refine WC.seq ?_
 refine WC.region ?_
 refine WL.quiet (Qt.move rfl) rfl rfl ?_
 refine WL.quiet (Qt.assign rfl) rfl rfl ?_
 refine WL.nil ?_
 refine WX.next ?_
 refine WC.seq ?_
 refine WC.seq ?_
 refine WC.region ?_
 refine WL.quiet (Qt.fieldAddrB tf47_0 rfl) rfl rfl ?_
 refine WL.quiet (Qt.loadB 0 rfl ta3 rfl rfl) rfl rfl ?_
 refine WL.nil ?_
 refine WX.next ?_
 refine WC.block ?_
 refine WC.seq ?_
 refine WC.region ?_
 refine WL.quiet (Qt.eql rfl rfl) rfl rfl ?_
 refine WL.quiet (Qt.assign rfl) rfl rfl ?_
 refine WL.nil ?_
 refine WX.next ?_
 refine WC.condD rfl (fun hc_1 => ?_) (fun hc_1 => ?_)
 ·
  refine WC.skip ?_
  refine WX.block_end ?_
  refine WX.next ?_
  refine WC.seq ?_
  refine WC.cut (fun _ : Unit => [(5, .pointer (some ⟨b_2, 0, none⟩)), (6, .bool false), (7, .int .i64 0), (8, .slice IA inp.length ci), (31, .bool (decide (((n : Int) < 0) ∨ ((n : Int) ≥ ((inp.length : Nat) : Int)))))]) (fun _ => [blk b_2 47 [.int .i64 sp, .int .i64 n], blk b_1 28 [.slice QA q.length cq, .slice MA m.length cm, .slice EA ne ce], rd kBool IA ci inp, rd kBool QA cq q, rd kBool MA cm m]) (fun _ => True) ?_ ?_
  ·
   refine WC.region ?_
   refine WL.quiet (Qt.fieldAddrB tf47_1 rfl) rfl rfl ?_
   refine WL.quiet (Qt.loadB 0 rfl ta3 rfl rfl) rfl rfl ?_
   refine WL.quiet (Qt.lss rfl rfl) rfl rfl ?_
   refine WL.quiet (Qt.move rfl) rfl rfl ?_
   refine WL.splitD 25 rfl rfl (fun hg_1 => ?_) (fun hg_1 => ?_)
   ·
    refine WL.skipG 3 false true rfl 25 rfl rfl rfl rfl ?_
    refine WL.skipG 3 false true rfl 25 rfl rfl rfl rfl ?_
    refine WL.skipG 3 false true rfl 25 rfl rfl rfl rfl ?_
    refine WL.skipG 3 false true rfl 25 rfl rfl rfl rfl ?_
    refine WL.skipG 3 false true rfl 25 rfl rfl rfl rfl ?_
    refine WL.quiet (Qt.pickT rfl rfl) rfl rfl ?_
    refine WL.nil ?_
    exact WX.cut () trivial ⟨rfl, rfl, rfl, rfl, (by rw [show decide (((n : Int) < 0) ∨ ((n : Int) ≥ ((inp.length : Nat) : Int))) = true from by first | (simp [hg_1]; done) | exact decide_eq_decide.2 (by omega) | exact decide_eq_true (by omega) | exact decide_eq_false (by omega) | (simp [hg_1] <;> omega)]; rfl), trivial⟩ (.take 0 rfl (.take 0 rfl (.u 0 rfl (.u 1 rfl (.u 2 rfl (.nil))))))
   ·
    refine WL.quietG 3 false rfl 25 rfl rfl (Qt.fieldAddrB tf47_1 rfl) rfl ?_
    refine WL.quietG 3 false rfl 25 rfl rfl (Qt.loadB 0 rfl ta3 rfl rfl) rfl ?_
    refine WL.quietG 3 false rfl 25 rfl rfl (Qt.move rfl) rfl ?_
    refine WL.quietG 3 false rfl 25 rfl rfl (Qt.lenS Tryz.underlying26 rfl) rfl ?_
    refine WL.quietG 3 false rfl 25 rfl rfl (Qt.geq rfl rfl) rfl ?_
    refine WL.quiet (Qt.pickF rfl rfl) rfl rfl ?_
    refine WL.nil ?_
    exact WX.cut () trivial ⟨rfl, rfl, rfl, rfl, (by rw [show decide (((n : Int) < 0) ∨ ((n : Int) ≥ ((inp.length : Nat) : Int))) = (decide ((n : Int) ≥ ((inp.length : Nat) : Int))) from by first | (simp [hg_1]; done) | exact decide_eq_decide.2 (by omega) | exact decide_eq_true (by omega) | exact decide_eq_false (by omega) | (simp [hg_1] <;> omega)]; rfl), trivial⟩ (.take 0 rfl (.take 0 rfl (.u 0 rfl (.u 1 rfl (.u 2 rfl (.nil))))))
  ·
   intro _ _
   show WC _ _ _ _ _ _ [(5, .pointer (some ⟨b_2, 0, none⟩)), (6, .bool false), (7, .int .i64 0), (8, .slice IA inp.length ci), (31, .bool (decide (((n : Int) < 0) ∨ ((n : Int) ≥ ((inp.length : Nat) : Int)))))] [blk b_2 47 [.int .i64 sp, .int .i64 n], blk b_1 28 [.slice QA q.length cq, .slice MA m.length cm, .slice EA ne ce], rd kBool IA ci inp, rd kBool QA cq q, rd kBool MA cm m]
   refine WC.condD rfl (fun hc_2 => ?_) (fun hc_2 => ?_)
   ·
    refine WC.seq ?_
    refine WC.region ?_
    refine WL.quiet (Qt.assign rfl) rfl rfl ?_
    refine WL.quiet (Qt.assign rfl) rfl rfl ?_
    refine WL.nil ?_
    refine WX.next ?_
    refine WC.ret ?_
    refine WX.pass_ret ?_
    refine WX.ret2 (.nil) rfl rfl rfl ?_
    first | (have h0 : sp = 0 := (by omega); subst h0; exact ⟨by rw [show (Bits.mk inp q m).rd 0 n = getB inp n from rfl, getB_bad (by omega)], rfl⟩) | (have h0 : sp = 1 := (by omega); subst h0; exact ⟨by rw [show (Bits.mk inp q m).rd 1 n = getB q n from rfl, getB_bad (by omega)], rfl⟩) | (have h0 : sp = 2 := (by omega); subst h0; exact ⟨by rw [show (Bits.mk inp q m).rd 2 n = getB m n from rfl, getB_bad (by omega)], rfl⟩)
   ·
    refine WC.skip ?_
    refine WX.next ?_
    refine WC.seq ?_
    obtain ⟨j, hj⟩ := Int.eq_ofNat_of_zero_le (show 0 ≤ n from by omega)
    rw [hj]
    refine WC.region ?_
    refine WL.quiet (Qt.move rfl) rfl rfl ?_
    refine WL.quiet (Qt.fieldAddrB tf47_1 rfl) rfl rfl ?_
    refine WL.quiet (Qt.loadB 0 rfl ta3 rfl rfl) rfl rfl ?_
    have hj_1 : j < inp.length := by omega
    refine WL.learn 2 rfl (rd_at j hj_1 (vBool _)) ?_
    rintro ⟨p_1, ⟨⟩⟩ hA_1
    refine WL.quiet (Qt.indexAddrE j hA_1 Tryz.underlying26 ti4 rfl rfl (by first | assumption | omega)) rfl rfl ?_
    refine WL.quiet (Qt.loadC (p := p_1.add (j * 1)) (o := 0) 0 rfl ta4 rfl rfl) rfl rfl ?_
    refine WL.quiet (Qt.assign rfl) rfl rfl ?_
    refine WL.quiet (Qt.assign rfl) rfl rfl ?_
    refine WL.nil ?_
    refine WX.next ?_
    refine WC.ret ?_
    refine WX.ret2 (.nil) rfl rfl rfl ?_
    first | (have h0 : sp = 0 := (by omega); subst h0; exact ⟨by rw [show (Bits.mk inp q m).rd 0 ((j : Nat) : Int) = getB inp ((j : Nat) : Int) from rfl, getB_at (by omega)], rfl⟩) | (have h0 : sp = 1 := (by omega); subst h0; exact ⟨by rw [show (Bits.mk inp q m).rd 1 ((j : Nat) : Int) = getB q ((j : Nat) : Int) from rfl, getB_at (by omega)], rfl⟩) | (have h0 : sp = 2 := (by omega); subst h0; exact ⟨by rw [show (Bits.mk inp q m).rd 2 ((j : Nat) : Int) = getB m ((j : Nat) : Int) from rfl, getB_at (by omega)], rfl⟩)
 ·
  refine WC.seq ?_
  refine WC.region ?_
  refine WL.quiet (Qt.eql rfl rfl) rfl rfl ?_
  refine WL.quiet (Qt.assign rfl) rfl rfl ?_
  refine WL.nil ?_
  refine WX.next ?_
  refine WC.condD rfl (fun hc_3 => ?_) (fun hc_3 => ?_)
  ·
   refine WC.region ?_
   refine WL.quiet (Qt.fieldAddrB tf28_0 rfl) rfl rfl ?_
   refine WL.quiet (Qt.loadB 1 rfl ta26 rfl rfl) rfl rfl ?_
   refine WL.quiet (Qt.assign rfl) rfl rfl ?_
   refine WL.nil ?_
   refine WX.block_end ?_
   refine WX.next ?_
   refine WC.seq ?_
   refine WC.cut (fun _ : Unit => [(5, .pointer (some ⟨b_2, 0, none⟩)), (6, .bool false), (7, .int .i64 0), (8, .slice QA q.length cq), (31, .bool (decide (((n : Int) < 0) ∨ ((n : Int) ≥ ((q.length : Nat) : Int)))))]) (fun _ => [blk b_2 47 [.int .i64 sp, .int .i64 n], blk b_1 28 [.slice QA q.length cq, .slice MA m.length cm, .slice EA ne ce], rd kBool IA ci inp, rd kBool QA cq q, rd kBool MA cm m]) (fun _ => True) ?_ ?_
   ·
    refine WC.region ?_
    refine WL.quiet (Qt.fieldAddrB tf47_1 rfl) rfl rfl ?_
    refine WL.quiet (Qt.loadB 0 rfl ta3 rfl rfl) rfl rfl ?_
    refine WL.quiet (Qt.lss rfl rfl) rfl rfl ?_
    refine WL.quiet (Qt.move rfl) rfl rfl ?_
    refine WL.splitD 25 rfl rfl (fun hg_2 => ?_) (fun hg_2 => ?_)
    ·
     refine WL.skipG 3 false true rfl 25 rfl rfl rfl rfl ?_
     refine WL.skipG 3 false true rfl 25 rfl rfl rfl rfl ?_
     refine WL.skipG 3 false true rfl 25 rfl rfl rfl rfl ?_
     refine WL.skipG 3 false true rfl 25 rfl rfl rfl rfl ?_
     refine WL.skipG 3 false true rfl 25 rfl rfl rfl rfl ?_
     refine WL.quiet (Qt.pickT rfl rfl) rfl rfl ?_
     refine WL.nil ?_
     exact WX.cut () trivial ⟨rfl, rfl, rfl, rfl, (by rw [show decide (((n : Int) < 0) ∨ ((n : Int) ≥ ((q.length : Nat) : Int))) = true from by first | (simp [hg_2]; done) | exact decide_eq_decide.2 (by omega) | exact decide_eq_true (by omega) | exact decide_eq_false (by omega) | (simp [hg_2] <;> omega)]; rfl), trivial⟩ (.take 0 rfl (.take 0 rfl (.u 0 rfl (.u 1 rfl (.u 2 rfl (.nil))))))
    ·
     refine WL.quietG 3 false rfl 25 rfl rfl (Qt.fieldAddrB tf47_1 rfl) rfl ?_
     refine WL.quietG 3 false rfl 25 rfl rfl (Qt.loadB 0 rfl ta3 rfl rfl) rfl ?_
     refine WL.quietG 3 false rfl 25 rfl rfl (Qt.move rfl) rfl ?_
     refine WL.quietG 3 false rfl 25 rfl rfl (Qt.lenS Tryz.underlying26 rfl) rfl ?_
     refine WL.quietG 3 false rfl 25 rfl rfl (Qt.geq rfl rfl) rfl ?_
     refine WL.quiet (Qt.pickF rfl rfl) rfl rfl ?_
     refine WL.nil ?_
     exact WX.cut () trivial ⟨rfl, rfl, rfl, rfl, (by rw [show decide (((n : Int) < 0) ∨ ((n : Int) ≥ ((q.length : Nat) : Int))) = (decide ((n : Int) ≥ ((q.length : Nat) : Int))) from by first | (simp [hg_2]; done) | exact decide_eq_decide.2 (by omega) | exact decide_eq_true (by omega) | exact decide_eq_false (by omega) | (simp [hg_2] <;> omega)]; rfl), trivial⟩ (.take 0 rfl (.take 0 rfl (.u 0 rfl (.u 1 rfl (.u 2 rfl (.nil))))))
   ·
    intro _ _
    show WC _ _ _ _ _ _ [(5, .pointer (some ⟨b_2, 0, none⟩)), (6, .bool false), (7, .int .i64 0), (8, .slice QA q.length cq), (31, .bool (decide (((n : Int) < 0) ∨ ((n : Int) ≥ ((q.length : Nat) : Int)))))] [blk b_2 47 [.int .i64 sp, .int .i64 n], blk b_1 28 [.slice QA q.length cq, .slice MA m.length cm, .slice EA ne ce], rd kBool IA ci inp, rd kBool QA cq q, rd kBool MA cm m]
    refine WC.condD rfl (fun hc_4 => ?_) (fun hc_4 => ?_)
    ·
     refine WC.seq ?_
     refine WC.region ?_
     refine WL.quiet (Qt.assign rfl) rfl rfl ?_
     refine WL.quiet (Qt.assign rfl) rfl rfl ?_
     refine WL.nil ?_
     refine WX.next ?_
     refine WC.ret ?_
     refine WX.pass_ret ?_
     refine WX.ret2 (.nil) rfl rfl rfl ?_
     first | (have h0 : sp = 0 := (by omega); subst h0; exact ⟨by rw [show (Bits.mk inp q m).rd 0 n = getB inp n from rfl, getB_bad (by omega)], rfl⟩) | (have h0 : sp = 1 := (by omega); subst h0; exact ⟨by rw [show (Bits.mk inp q m).rd 1 n = getB q n from rfl, getB_bad (by omega)], rfl⟩) | (have h0 : sp = 2 := (by omega); subst h0; exact ⟨by rw [show (Bits.mk inp q m).rd 2 n = getB m n from rfl, getB_bad (by omega)], rfl⟩)
    ·
     refine WC.skip ?_
     refine WX.next ?_
     refine WC.seq ?_
     obtain ⟨j, hj⟩ := Int.eq_ofNat_of_zero_le (show 0 ≤ n from by omega)
     rw [hj]
     refine WC.region ?_
     refine WL.quiet (Qt.move rfl) rfl rfl ?_
     refine WL.quiet (Qt.fieldAddrB tf47_1 rfl) rfl rfl ?_
     refine WL.quiet (Qt.loadB 0 rfl ta3 rfl rfl) rfl rfl ?_
     have hj_2 : j < q.length := by omega
     refine WL.learn 3 rfl (rd_at j hj_2 (vBool _)) ?_
     rintro ⟨p_2, ⟨⟩⟩ hA_2
     refine WL.quiet (Qt.indexAddrE j hA_2 Tryz.underlying26 ti4 rfl rfl (by first | assumption | omega)) rfl rfl ?_
     refine WL.quiet (Qt.loadC (p := p_2.add (j * 1)) (o := 0) 0 rfl ta4 rfl rfl) rfl rfl ?_
     refine WL.quiet (Qt.assign rfl) rfl rfl ?_
     refine WL.quiet (Qt.assign rfl) rfl rfl ?_
     refine WL.nil ?_
     refine WX.next ?_
     refine WC.ret ?_
     refine WX.ret2 (.nil) rfl rfl rfl ?_
     first | (have h0 : sp = 0 := (by omega); subst h0; exact ⟨by rw [show (Bits.mk inp q m).rd 0 ((j : Nat) : Int) = getB inp ((j : Nat) : Int) from rfl, getB_at (by omega)], rfl⟩) | (have h0 : sp = 1 := (by omega); subst h0; exact ⟨by rw [show (Bits.mk inp q m).rd 1 ((j : Nat) : Int) = getB q ((j : Nat) : Int) from rfl, getB_at (by omega)], rfl⟩) | (have h0 : sp = 2 := (by omega); subst h0; exact ⟨by rw [show (Bits.mk inp q m).rd 2 ((j : Nat) : Int) = getB m ((j : Nat) : Int) from rfl, getB_at (by omega)], rfl⟩)
  ·
   refine WC.seq ?_
   refine WC.region ?_
   refine WL.quiet (Qt.eql rfl rfl) rfl rfl ?_
   refine WL.quiet (Qt.assign rfl) rfl rfl ?_
   refine WL.nil ?_
   refine WX.next ?_
   refine WC.condD rfl (fun hc_5 => ?_) (fun hc_5 => ?_)
   ·
    refine WC.region ?_
    refine WL.quiet (Qt.fieldAddrB tf28_1 rfl) rfl rfl ?_
    refine WL.quiet (Qt.loadB 1 rfl ta26 rfl rfl) rfl rfl ?_
    refine WL.quiet (Qt.assign rfl) rfl rfl ?_
    refine WL.nil ?_
    refine WX.block_end ?_
    refine WX.next ?_
    refine WC.seq ?_
    refine WC.cut (fun _ : Unit => [(5, .pointer (some ⟨b_2, 0, none⟩)), (6, .bool false), (7, .int .i64 0), (8, .slice MA m.length cm), (31, .bool (decide (((n : Int) < 0) ∨ ((n : Int) ≥ ((m.length : Nat) : Int)))))]) (fun _ => [blk b_2 47 [.int .i64 sp, .int .i64 n], blk b_1 28 [.slice QA q.length cq, .slice MA m.length cm, .slice EA ne ce], rd kBool IA ci inp, rd kBool QA cq q, rd kBool MA cm m]) (fun _ => True) ?_ ?_
    ·
     refine WC.region ?_
     refine WL.quiet (Qt.fieldAddrB tf47_1 rfl) rfl rfl ?_
     refine WL.quiet (Qt.loadB 0 rfl ta3 rfl rfl) rfl rfl ?_
     refine WL.quiet (Qt.lss rfl rfl) rfl rfl ?_
     refine WL.quiet (Qt.move rfl) rfl rfl ?_
     refine WL.splitD 25 rfl rfl (fun hg_3 => ?_) (fun hg_3 => ?_)
     ·
      refine WL.skipG 3 false true rfl 25 rfl rfl rfl rfl ?_
      refine WL.skipG 3 false true rfl 25 rfl rfl rfl rfl ?_
      refine WL.skipG 3 false true rfl 25 rfl rfl rfl rfl ?_
      refine WL.skipG 3 false true rfl 25 rfl rfl rfl rfl ?_
      refine WL.skipG 3 false true rfl 25 rfl rfl rfl rfl ?_
      refine WL.quiet (Qt.pickT rfl rfl) rfl rfl ?_
      refine WL.nil ?_
      exact WX.cut () trivial ⟨rfl, rfl, rfl, rfl, (by rw [show decide (((n : Int) < 0) ∨ ((n : Int) ≥ ((m.length : Nat) : Int))) = true from by first | (simp [hg_3]; done) | exact decide_eq_decide.2 (by omega) | exact decide_eq_true (by omega) | exact decide_eq_false (by omega) | (simp [hg_3] <;> omega)]; rfl), trivial⟩ (.take 0 rfl (.take 0 rfl (.u 0 rfl (.u 1 rfl (.u 2 rfl (.nil))))))
     ·
      refine WL.quietG 3 false rfl 25 rfl rfl (Qt.fieldAddrB tf47_1 rfl) rfl ?_
      refine WL.quietG 3 false rfl 25 rfl rfl (Qt.loadB 0 rfl ta3 rfl rfl) rfl ?_
      refine WL.quietG 3 false rfl 25 rfl rfl (Qt.move rfl) rfl ?_
      refine WL.quietG 3 false rfl 25 rfl rfl (Qt.lenS Tryz.underlying26 rfl) rfl ?_
      refine WL.quietG 3 false rfl 25 rfl rfl (Qt.geq rfl rfl) rfl ?_
      refine WL.quiet (Qt.pickF rfl rfl) rfl rfl ?_
      refine WL.nil ?_
      exact WX.cut () trivial ⟨rfl, rfl, rfl, rfl, (by rw [show decide (((n : Int) < 0) ∨ ((n : Int) ≥ ((m.length : Nat) : Int))) = (decide ((n : Int) ≥ ((m.length : Nat) : Int))) from by first | (simp [hg_3]; done) | exact decide_eq_decide.2 (by omega) | exact decide_eq_true (by omega) | exact decide_eq_false (by omega) | (simp [hg_3] <;> omega)]; rfl), trivial⟩ (.take 0 rfl (.take 0 rfl (.u 0 rfl (.u 1 rfl (.u 2 rfl (.nil))))))
    ·
     intro _ _
     show WC _ _ _ _ _ _ [(5, .pointer (some ⟨b_2, 0, none⟩)), (6, .bool false), (7, .int .i64 0), (8, .slice MA m.length cm), (31, .bool (decide (((n : Int) < 0) ∨ ((n : Int) ≥ ((m.length : Nat) : Int)))))] [blk b_2 47 [.int .i64 sp, .int .i64 n], blk b_1 28 [.slice QA q.length cq, .slice MA m.length cm, .slice EA ne ce], rd kBool IA ci inp, rd kBool QA cq q, rd kBool MA cm m]
     refine WC.condD rfl (fun hc_6 => ?_) (fun hc_6 => ?_)
     ·
      refine WC.seq ?_
      refine WC.region ?_
      refine WL.quiet (Qt.assign rfl) rfl rfl ?_
      refine WL.quiet (Qt.assign rfl) rfl rfl ?_
      refine WL.nil ?_
      refine WX.next ?_
      refine WC.ret ?_
      refine WX.pass_ret ?_
      refine WX.ret2 (.nil) rfl rfl rfl ?_
      first | (have h0 : sp = 0 := (by omega); subst h0; exact ⟨by rw [show (Bits.mk inp q m).rd 0 n = getB inp n from rfl, getB_bad (by omega)], rfl⟩) | (have h0 : sp = 1 := (by omega); subst h0; exact ⟨by rw [show (Bits.mk inp q m).rd 1 n = getB q n from rfl, getB_bad (by omega)], rfl⟩) | (have h0 : sp = 2 := (by omega); subst h0; exact ⟨by rw [show (Bits.mk inp q m).rd 2 n = getB m n from rfl, getB_bad (by omega)], rfl⟩)
     ·
      refine WC.skip ?_
      refine WX.next ?_
      refine WC.seq ?_
      obtain ⟨j, hj⟩ := Int.eq_ofNat_of_zero_le (show 0 ≤ n from by omega)
      rw [hj]
      refine WC.region ?_
      refine WL.quiet (Qt.move rfl) rfl rfl ?_
      refine WL.quiet (Qt.fieldAddrB tf47_1 rfl) rfl rfl ?_
      refine WL.quiet (Qt.loadB 0 rfl ta3 rfl rfl) rfl rfl ?_
      have hj_3 : j < m.length := by omega
      refine WL.learn 4 rfl (rd_at j hj_3 (vBool _)) ?_
      rintro ⟨p_3, ⟨⟩⟩ hA_3
      refine WL.quiet (Qt.indexAddrE j hA_3 Tryz.underlying26 ti4 rfl rfl (by first | assumption | omega)) rfl rfl ?_
      refine WL.quiet (Qt.loadC (p := p_3.add (j * 1)) (o := 0) 0 rfl ta4 rfl rfl) rfl rfl ?_
      refine WL.quiet (Qt.assign rfl) rfl rfl ?_
      refine WL.quiet (Qt.assign rfl) rfl rfl ?_
      refine WL.nil ?_
      refine WX.next ?_
      refine WC.ret ?_
      refine WX.ret2 (.nil) rfl rfl rfl ?_
      first | (have h0 : sp = 0 := (by omega); subst h0; exact ⟨by rw [show (Bits.mk inp q m).rd 0 ((j : Nat) : Int) = getB inp ((j : Nat) : Int) from rfl, getB_at (by omega)], rfl⟩) | (have h0 : sp = 1 := (by omega); subst h0; exact ⟨by rw [show (Bits.mk inp q m).rd 1 ((j : Nat) : Int) = getB q ((j : Nat) : Int) from rfl, getB_at (by omega)], rfl⟩) | (have h0 : sp = 2 := (by omega); subst h0; exact ⟨by rw [show (Bits.mk inp q m).rd 2 ((j : Nat) : Int) = getB m ((j : Nat) : Int) from rfl, getB_at (by omega)], rfl⟩)
   ·
    refine WC.seq ?_
    refine WC.region ?_
    refine WL.quiet (Qt.assign rfl) rfl rfl ?_
    refine WL.quiet (Qt.assign rfl) rfl rfl ?_
    refine WL.nil ?_
    refine WX.next ?_
    refine WC.ret ?_
    refine WX.block_ret ?_
    refine WX.pass_ret ?_
    refine WX.ret2 (.nil) rfl rfl rfl ?_
    exact ⟨by rw [rd_bad _ (by omega)], rfl⟩

end Go.Proofs.YtolggjmgfijjfaaGreatDoor.Sep

/- A walk, printed by gen.py out of hints. -/
namespace Go.Proofs.YtolggjmgfijjfaaGreatDoor.Sep
open Go
variable {μ : Prop}
theorem refSetW (l : List Bool) (i : Nat) (x : Bool) (A : Option Addr) (c : Nat) (hi : i < l.length) (hl : l.length ≤ 1000000) : Spec μ Tryz.prog 25 #[.slice A l.length c, .int .i64 ((i : Nat) : Int), .bool x] [rd kBool A c l] fun v Δ => ∃ A1 c1, v = .slice A1 (l.set i x).length c1 ∧ Δ = [row kBool 4 A1 c1 (l.set i x)] := by
 refine Spec.of_body (n := 16) Tryz.func25 rfl rfl rfl fun w0 S0 O0 => ?_
 show WC _ _ _ _ _ _ [(0, .slice A l.length c), (1, .int .i64 ((i : Nat) : Int)), (2, .bool x)] [rd kBool A c l]
 refine WC.seq ?_
 refine WC.region ?_
 refine WL.quiet (Qt.assign rfl) rfl rfl ?_
 refine WL.nil ?_
 refine WX.next ?_
 refine WC.seq ?_
 refine WC.region ?_
 refine WL.loud (.nil) (Ld.buildEmpty Tryz.underlying26 ti4) trivial rfl ?_
 rintro _ _ ⟨b_1, rfl, rfl⟩
 refine WL.turn (.take 0 rfl (.nil)) (blk_row (e := kBool) (U := []) [] (fun F hF => nomatch hF) (fun S w h => Reps.nil _ _ _) (by simp)) ?_
 rintro _ rfl
 refine WL.quiet (Qt.move rfl) rfl rfl ?_
 refine WL.loud (.take 0 rfl (.u 0 rfl (.nil))) (Ld.appendRd (e := kBool) (xs := []) (ys := l) Tryz.underlying26 ti4 rfl (by decide) (by decide) rfl rfl (by first | omega | (simp; omega))) trivial rfl ?_
 rintro _ _ ⟨A_1, c_1, rfl, rfl⟩
 refine WL.quiet (Qt.assign rfl) rfl rfl ?_
 refine WL.nil ?_
 refine WX.next ?_
 refine WC.seq ?_
 rw [List.nil_append]
 refine WC.turn (.take 0 rfl (.nil)) (row_open (by omega)) ?_
 rintro _ ⟨b_2, cur_1, rfl, rfl⟩
 refine WC.region ?_
 refine WL.quiet (Qt.move rfl) rfl rfl ?_
 refine WL.quiet (Qt.move rfl) rfl rfl ?_
 refine WL.quiet (Qt.move rfl) rfl rfl ?_
 have hj_1 : i < l.length := by omega
 refine WL.learn 0 rfl (rowL_at i hj_1 (vBool _)) ?_
 rintro _ hel_1
 refine WL.quiet (Qt.indexAddrB i Tryz.underlying26 ti4 rfl rfl (by first | assumption | omega)) rfl rfl ?_
 refine WL.loud (.take 0 rfl (.nil)) (Ld.storeR (j := i) (o := 0) x (by first | assumption | omega | (simp; omega)) hel_1 ti4 rfl rfl rfl rfl rfl rfl (fun S w h => rfl)) trivial rfl ?_
 rintro _ _ ⟨cur_2, hel_2, hoth_1, rfl⟩
 refine WL.nil ?_
 refine WX.next ?_
 refine WC.seq ?_
 refine WC.region ?_
 refine WL.quiet (Qt.move rfl) rfl rfl ?_
 refine WL.quiet (Qt.assign rfl) rfl rfl ?_
 refine WL.nil ?_
 refine WX.next ?_
 refine WC.ret ?_
 refine WX.turn (.take 0 rfl (.nil)) (row_close) ?_
 rintro _ rfl
 refine WX.ret1 (.take 0 rfl (.nil)) rfl rfl ?_
 exact ⟨(some ⟨b_2, 0, none⟩), c_1, by rw [List.length_set], rfl⟩

end Go.Proofs.YtolggjmgfijjfaaGreatDoor.Sep

/- A walk, printed by gen.py out of hints. -/
namespace Go.Proofs.YtolggjmgfijjfaaGreatDoor.Sep
open Go
variable {μ : Prop}
theorem refContactsW (cs : List Contact) (inp q m e : List Bool) (nm cm : ByteArray) (CA OA IA QA MA EA : Option Addr) (no cc oc ci cq cm1 ce : Nat) (hlen : cs.length ≤ 100000) (hq : q.length ≤ 100000) (hm : m.length ≤ 100000) (he : e.length ≤ 100000) : Spec μ Tryz.prog 7 #[.agg [.string nm, .slice CA cs.length cc, .slice OA no oc, .string cm].toArray, .slice IA inp.length ci, .agg [.slice QA q.length cq, .slice MA m.length cm1, .slice EA e.length ce].toArray, .int .i64 0] [rd kContact CA cc cs, rd kBool IA ci inp, rd kBool QA cq q, rd kBool MA cm1 m, rd kBool EA ce e] fun v Δ => ∃ (er : Int) (A1 : Option Addr) (c1 : Nat) (on : List Bool) (Q1 : Option Addr) (q1 nq : Nat) (M1 : Option Addr) (m1 nm1 : Nat) (E1 : Option Addr) (e1 : Nat) (E : List Bool), v = .tuple #[.slice A1 on.length c1, .agg #[.slice Q1 nq q1, .slice M1 nm1 m1, .slice E1 E.length e1], .int .i64 er] ∧ Δ = [rd kBool A1 c1 on, rd kBool E1 e1 E] ∧ (er = 0 → RefI (envOf inp q m cs e) cs.length on E) := by
 refine Spec.of_body (n := 116) Tryz.func7 rfl rfl rfl fun w0 S0 O0 => ?_
 show WC _ _ _ _ _ _ [(0, .agg [.string nm, .slice CA cs.length cc, .slice OA no oc, .string cm].toArray), (1, .slice IA inp.length ci), (2, .agg [.slice QA q.length cq, .slice MA m.length cm1, .slice EA e.length ce].toArray), (3, .int .i64 0)] [rd kContact CA cc cs, rd kBool IA ci inp, rd kBool QA cq q, rd kBool MA cm1 m, rd kBool EA ce e]
 refine WC.learn (Z := Unit) (Δ := fun _ => []) (φ := fun _ => cs.length ≤ cc ∧ cc ≤ 9223372036854775807) 0 rfl (fun S w h => ⟨(), rd_bounds h, nofacts⟩) ?_
 rintro _ ⟨hb_1, hb_2⟩
 refine WC.learn (Z := Unit) (Δ := fun _ => []) (φ := fun _ => inp.length ≤ ci ∧ ci ≤ 9223372036854775807) 1 rfl (fun S w h => ⟨(), rd_bounds h, nofacts⟩) ?_
 rintro _ ⟨hb_3, hb_4⟩
 refine WC.learn (Z := Unit) (Δ := fun _ => []) (φ := fun _ => q.length ≤ cq ∧ cq ≤ 9223372036854775807) 2 rfl (fun S w h => ⟨(), rd_bounds h, nofacts⟩) ?_
 rintro _ ⟨hb_5, hb_6⟩
 refine WC.learn (Z := Unit) (Δ := fun _ => []) (φ := fun _ => m.length ≤ cm1 ∧ cm1 ≤ 9223372036854775807) 3 rfl (fun S w h => ⟨(), rd_bounds h, nofacts⟩) ?_
 rintro _ ⟨hb_7, hb_8⟩
 refine WC.learn (Z := Unit) (Δ := fun _ => []) (φ := fun _ => e.length ≤ ce ∧ ce ≤ 9223372036854775807) 4 rfl (fun S w h => ⟨(), rd_bounds h, nofacts⟩) ?_
 rintro _ ⟨hb_9, hb_10⟩
 refine WC.seq ?_
 refine WC.region ?_
 refine WL.loud (.nil) (Ld.box rfl rfl) trivial rfl ?_
 rintro _ _ ⟨b_1, rfl, rfl⟩
 refine WL.loud (.nil) (Ld.box rfl rfl) trivial rfl ?_
 rintro _ _ ⟨b_2, rfl, rfl⟩
 refine WL.quiet (Qt.assign rfl) rfl rfl ?_
 refine WL.loud (.nil) (Ld.alloc ti28 rfl) trivial rfl ?_
 rintro _ _ ⟨b_3, rfl, rfl⟩
 refine WL.quiet (Qt.assign rfl) rfl rfl ?_
 refine WL.nil ?_
 refine WX.next ?_
 refine WC.seq ?_
 refine WC.region ?_
 refine WL.quiet (Qt.loadBA 1 rfl ta28 ti28 rfl rfl) rfl rfl ?_
 refine WL.call (.u 5 rfl (.u 6 rfl (.u 7 rfl (.nil)))) (Cl.func cb23 rfl) (refCloneW q m e _ _ _ _ _ _ hq hm he) trivial rfl ?_
 rintro _ _ ⟨A_1, c_1, A_2, c_2, A_3, c_3, rfl, rfl⟩
 refine WL.loud (.nil) (Ld.alloc ti28 rfl) trivial rfl ?_
 rintro _ _ ⟨b_4, rfl, rfl⟩
 refine WL.loud (.take 0 rfl (.nil)) (Ld.store ti28 rfl rfl rfl rfl rfl rfl) trivial rfl ?_
 rintro _ _ rfl
 refine WL.nil ?_
 refine WX.next ?_
 refine WC.seq ?_
 refine WC.region ?_
 refine WL.quiet (Qt.assign rfl) rfl rfl ?_
 refine WL.nil ?_
 refine WX.next ?_
 refine WC.seq ?_
 refine WC.region ?_
 refine WL.quiet (Qt.assign rfl) rfl rfl ?_
 refine WL.nil ?_
 refine WX.next ?_
 refine WC.seq ?_
 refine WC.seq ?_
 refine WC.region ?_
 refine WL.quiet (Qt.assign rfl) rfl rfl ?_
 refine WL.nil ?_
 refine WX.next ?_
 refine WC.block ?_
 refine WC.turn (.take 3 rfl (.nil)) (freeze_row) ?_
 rintro _ rfl
 refine WC.turn (.nil) (nil_row (e := kBool) (t := 4)) ?_
 rintro _ rfl
 refine WC.loop (fun w0 : Nat × (Option Addr) × Nat × (List Bool) × (Option Addr) × Nat × (List Bool) => [(1, .slice IA inp.length ci), (3, .int .i64 0), (4, .pointer (some ⟨b_1, 0, none⟩)), (6, .pointer (some ⟨b_2, 0, none⟩)), (8, .slice none 0 0), (9, .pointer (some ⟨b_3, 0, none⟩)), (10, .int .i64 0), (11, .pointer (some ⟨b_4, 0, none⟩)), (12, .slice w0.2.1 w0.2.2.2.1.length w0.2.2.1), (13, .int .i64 (((slotN cs w0.1) : Nat) : Int)), (14, .int .i64 ((w0.1 : Nat) : Int))]) (fun w0 => [row kBool 4 w0.2.1 w0.2.2.1 w0.2.2.2.1, rd kBool w0.2.2.2.2.1 w0.2.2.2.2.2.1 w0.2.2.2.2.2.2, blk b_4 28 [.slice A_1 q.length c_1, .slice A_2 m.length c_2, .slice w0.2.2.2.2.1 w0.2.2.2.2.2.2.length w0.2.2.2.2.2.1], row kBool 4 A_1 c_1 q, row kBool 4 A_2 c_2 m, blk b_3 28 [.slice none 0 0, .slice none 0 0, .slice none 0 0], blk b_2 28 [.slice QA q.length cq, .slice MA m.length cm1, .slice EA e.length ce], blk b_1 25 [.string nm, .slice CA cs.length cc, .slice OA no oc, .string cm], rd kContact CA cc cs, rd kBool IA ci inp, rd kBool QA cq q, rd kBool MA cm1 m, rd kBool EA ce e]) (fun w0 => w0.1 ≤ cs.length ∧ RefI (envOf inp q m cs e) w0.1 w0.2.2.2.1 w0.2.2.2.2.2.2) (fun w0 => cs.length - w0.1) (0, none, 0, [], A_3, c_3, e) ⟨Nat.zero_le _, RefI.zero _⟩ ⟨rfl, rfl, rfl, rfl, rfl, rfl, rfl, rfl, rfl, rfl, rfl, trivial⟩ (.take 0 rfl (.u 0 rfl (.take 1 rfl (.take 1 rfl (.take 1 rfl (.take 1 rfl (.take 1 rfl (.take 1 rfl (.u 1 rfl (.u 2 rfl (.u 3 rfl (.u 4 rfl (.u 5 rfl (.nil)))))))))))))) ?_
 rintro ⟨k, A1, c1, on, E1, e1, E⟩ ⟨hk, hI⟩
 try dsimp only at hk hI
 show WC _ _ _ _ _ _ [(1, .slice IA inp.length ci), (3, .int .i64 0), (4, .pointer (some ⟨b_1, 0, none⟩)), (6, .pointer (some ⟨b_2, 0, none⟩)), (8, .slice none 0 0), (9, .pointer (some ⟨b_3, 0, none⟩)), (10, .int .i64 0), (11, .pointer (some ⟨b_4, 0, none⟩)), (12, .slice A1 on.length c1), (13, .int .i64 (((slotN cs k) : Nat) : Int)), (14, .int .i64 ((k : Nat) : Int))] [row kBool 4 A1 c1 on, rd kBool E1 e1 E, blk b_4 28 [.slice A_1 q.length c_1, .slice A_2 m.length c_2, .slice E1 E.length e1], row kBool 4 A_1 c_1 q, row kBool 4 A_2 c_2 m, blk b_3 28 [.slice none 0 0, .slice none 0 0, .slice none 0 0], blk b_2 28 [.slice QA q.length cq, .slice MA m.length cm1, .slice EA e.length ce], blk b_1 25 [.string nm, .slice CA cs.length cc, .slice OA no oc, .string cm], rd kContact CA cc cs, rd kBool IA ci inp, rd kBool QA cq q, rd kBool MA cm1 m, rd kBool EA ce e]
 refine WC.seq ?_
 refine WC.seq ?_
 refine WC.region ?_
 refine WL.quiet (Qt.move rfl) rfl rfl ?_
 refine WL.quiet (Qt.fieldAddrB tf25_1 rfl) rfl rfl ?_
 refine WL.quiet (Qt.loadB 7 rfl ta22 rfl rfl) rfl rfl ?_
 refine WL.quiet (Qt.lenS Tryz.underlying22 rfl) rfl rfl ?_
 refine WL.quiet (Qt.lss rfl rfl) rfl rfl ?_
 refine WL.nil ?_
 refine WX.next ?_
 refine WC.condD rfl (fun hc_1 => ?_) (fun hc_1 => ?_)
 ·
  refine WC.skip ?_
  refine WX.next ?_
  refine WC.seq ?_
  refine WC.block ?_
  refine WC.seq ?_
  have hjk : k < cs.length := by omega
  have hol : on.length = k := hI.len.1
  have hEl : E.length = e.length := hI.len.2
  refine WC.region ?_
  refine WL.quiet (Qt.fieldAddrB tf25_1 rfl) rfl rfl ?_
  refine WL.quiet (Qt.loadB 7 rfl ta22 rfl rfl) rfl rfl ?_
  refine WL.quiet (Qt.move rfl) rfl rfl ?_
  have hj_1 : k < cs.length := by omega
  refine WL.learn 8 rfl (rd_at k hj_1 (vContact _)) ?_
  rintro ⟨p_1, ⟨⟩⟩ hA_1
  refine WL.quiet (Qt.indexAddrE k hA_1 Tryz.underlying22 ti56 rfl rfl (by first | assumption | omega)) rfl rfl ?_
  refine WL.quiet (Qt.loadCA (p := p_1.add (k * 5)) (o := 0) 0 rfl ta56 ti56 rfl rfl) rfl rfl ?_
  refine WL.loud (.nil) (Ld.alloc ti56 rfl) trivial rfl ?_
  rintro _ _ ⟨b_5, rfl, rfl⟩
  refine WL.loud (.take 0 rfl (.nil)) (Ld.store ti56 rfl rfl rfl rfl rfl rfl) trivial rfl ?_
  rintro _ _ rfl
  refine WL.nil ?_
  refine WX.next ?_
  refine WC.seq ?_
  refine WC.cut (fun _ : Unit => [(1, .slice IA inp.length ci), (3, .int .i64 0), (4, .pointer (some ⟨b_1, 0, none⟩)), (6, .pointer (some ⟨b_2, 0, none⟩)), (8, .slice none 0 0), (9, .pointer (some ⟨b_3, 0, none⟩)), (10, .int .i64 0), (11, .pointer (some ⟨b_4, 0, none⟩)), (12, .slice A1 on.length c1), (13, .int .i64 (((slotN cs k) : Nat) : Int)), (14, .int .i64 ((k : Nat) : Int)), (21, .int .i64 ((k : Nat) : Int)), (22, .pointer (some ⟨b_1, 1, none⟩)), (23, .slice CA cs.length cc), (24, .int .i64 ((cs.length : Nat) : Int)), (25, .bool (decide (((k : Nat) : Int) < ((cs.length : Nat) : Int)))), (28, .pointer (some ⟨b_1, 1, none⟩)), (29, .slice CA cs.length cc), (30, .int .i64 ((k : Nat) : Int)), (31, .pointer (some (p_1.add (k * 5)))), (32, .agg [.int .i64 (cs[k].kind), .int .i64 (cs[k].sp), .int .i64 (cs[k].n), .string (cs[k].frm), .string (cs[k].to)].toArray), (15, .pointer (some ⟨b_5, 0, none⟩)), (33, .pointer (some ⟨b_5, 0, none⟩)), (34, .int .i64 (cs[k].kind)), (35, .bool (decide ((cs[k].kind : Int) < 0))), (36, .bool (decide ((cs[k].kind : Int) < 0))), (40, .bool (decide (((cs[k].kind : Int) < 0) ∨ ((cs[k].kind : Int) > 3))))]) (fun _ => [blk b_5 56 [.int .i64 (cs[k].kind), .int .i64 (cs[k].sp), .int .i64 (cs[k].n), .string (cs[k].frm), .string (cs[k].to)], cellsAt (p_1.add (k * 5)) [.int .i64 (cs[k].kind), .int .i64 (cs[k].sp), .int .i64 (cs[k].n), .string (cs[k].frm), .string (cs[k].to)], row kBool 4 A1 c1 on, rd kBool E1 e1 E, blk b_4 28 [.slice A_1 q.length c_1, .slice A_2 m.length c_2, .slice E1 E.length e1], row kBool 4 A_1 c_1 q, row kBool 4 A_2 c_2 m, blk b_3 28 [.slice none 0 0, .slice none 0 0, .slice none 0 0], blk b_2 28 [.slice QA q.length cq, .slice MA m.length cm1, .slice EA e.length ce], blk b_1 25 [.string nm, .slice CA cs.length cc, .slice OA no oc, .string cm], rd kContact CA cc cs, rd kBool IA ci inp, rd kBool QA cq q, rd kBool MA cm1 m, rd kBool EA ce e]) (fun _ => True) ?_ ?_
  ·
   refine WC.region ?_
   refine WL.quiet (Qt.fieldAddrB tf56_0 rfl) rfl rfl ?_
   refine WL.quiet (Qt.loadB 0 rfl ta3 rfl rfl) rfl rfl ?_
   refine WL.quiet (Qt.lss rfl rfl) rfl rfl ?_
   refine WL.quiet (Qt.move rfl) rfl rfl ?_
   refine WL.splitD 36 rfl rfl (fun hg_1 => ?_) (fun hg_1 => ?_)
   ·
    refine WL.skipG 3 false true rfl 36 rfl rfl rfl rfl ?_
    refine WL.skipG 3 false true rfl 36 rfl rfl rfl rfl ?_
    refine WL.skipG 3 false true rfl 36 rfl rfl rfl rfl ?_
    refine WL.quiet (Qt.pickT rfl rfl) rfl rfl ?_
    refine WL.nil ?_
    exact WX.cut () trivial ⟨rfl, rfl, rfl, rfl, rfl, rfl, rfl, rfl, rfl, rfl, rfl, rfl, rfl, rfl, rfl, rfl, rfl, rfl, rfl, rfl, rfl, rfl, rfl, rfl, rfl, (by rw [show decide ((cs[k].kind : Int) < 0) = true from by first | (simp [hg_1]; done) | exact decide_eq_decide.2 (by omega) | exact decide_eq_true (by omega) | exact decide_eq_false (by omega) | (simp [hg_1] <;> omega)]; rfl), (by rw [show decide (((cs[k].kind : Int) < 0) ∨ ((cs[k].kind : Int) > 3)) = true from by first | (simp [hg_1]; done) | exact decide_eq_decide.2 (by omega) | exact decide_eq_true (by omega) | exact decide_eq_false (by omega) | (simp [hg_1] <;> omega)]; rfl), trivial⟩ (.take 0 rfl (.u 0 rfl (.take 1 rfl (.u 1 rfl (.take 2 rfl (.take 2 rfl (.take 2 rfl (.take 2 rfl (.take 2 rfl (.take 2 rfl (.u 2 rfl (.u 3 rfl (.u 4 rfl (.u 5 rfl (.u 6 rfl (.nil))))))))))))))))
   ·
    refine WL.quietG 3 false rfl 36 rfl rfl (Qt.fieldAddrB tf56_0 rfl) rfl ?_
    refine WL.quietG 3 false rfl 36 rfl rfl (Qt.loadB 0 rfl ta3 rfl rfl) rfl ?_
    refine WL.quietG 3 false rfl 36 rfl rfl (Qt.gtr rfl rfl) rfl ?_
    refine WL.quiet (Qt.pickF rfl rfl) rfl rfl ?_
    refine WL.nil ?_
    exact WX.cut () trivial ⟨rfl, rfl, rfl, rfl, rfl, rfl, rfl, rfl, rfl, rfl, rfl, rfl, rfl, rfl, rfl, rfl, rfl, rfl, rfl, rfl, rfl, rfl, rfl, rfl, rfl, (by rw [show decide ((cs[k].kind : Int) < 0) = false from by first | (simp [hg_1]; done) | exact decide_eq_decide.2 (by omega) | exact decide_eq_true (by omega) | exact decide_eq_false (by omega) | (simp [hg_1] <;> omega)]; rfl), (by rw [show decide (((cs[k].kind : Int) < 0) ∨ ((cs[k].kind : Int) > 3)) = (decide ((cs[k].kind : Int) > 3)) from by first | (simp [hg_1]; done) | exact decide_eq_decide.2 (by omega) | exact decide_eq_true (by omega) | exact decide_eq_false (by omega) | (simp [hg_1] <;> omega)]; rfl), trivial⟩ (.take 0 rfl (.u 0 rfl (.take 1 rfl (.u 1 rfl (.take 2 rfl (.take 2 rfl (.take 2 rfl (.take 2 rfl (.take 2 rfl (.take 2 rfl (.u 2 rfl (.u 3 rfl (.u 4 rfl (.u 5 rfl (.u 6 rfl (.nil))))))))))))))))
  ·
   intro _ _
   show WC _ _ _ _ _ _ [(1, .slice IA inp.length ci), (3, .int .i64 0), (4, .pointer (some ⟨b_1, 0, none⟩)), (6, .pointer (some ⟨b_2, 0, none⟩)), (8, .slice none 0 0), (9, .pointer (some ⟨b_3, 0, none⟩)), (10, .int .i64 0), (11, .pointer (some ⟨b_4, 0, none⟩)), (12, .slice A1 on.length c1), (13, .int .i64 (((slotN cs k) : Nat) : Int)), (14, .int .i64 ((k : Nat) : Int)), (21, .int .i64 ((k : Nat) : Int)), (22, .pointer (some ⟨b_1, 1, none⟩)), (23, .slice CA cs.length cc), (24, .int .i64 ((cs.length : Nat) : Int)), (25, .bool (decide (((k : Nat) : Int) < ((cs.length : Nat) : Int)))), (28, .pointer (some ⟨b_1, 1, none⟩)), (29, .slice CA cs.length cc), (30, .int .i64 ((k : Nat) : Int)), (31, .pointer (some (p_1.add (k * 5)))), (32, .agg [.int .i64 (cs[k].kind), .int .i64 (cs[k].sp), .int .i64 (cs[k].n), .string (cs[k].frm), .string (cs[k].to)].toArray), (15, .pointer (some ⟨b_5, 0, none⟩)), (33, .pointer (some ⟨b_5, 0, none⟩)), (34, .int .i64 (cs[k].kind)), (35, .bool (decide ((cs[k].kind : Int) < 0))), (36, .bool (decide ((cs[k].kind : Int) < 0))), (40, .bool (decide (((cs[k].kind : Int) < 0) ∨ ((cs[k].kind : Int) > 3))))] [blk b_5 56 [.int .i64 (cs[k].kind), .int .i64 (cs[k].sp), .int .i64 (cs[k].n), .string (cs[k].frm), .string (cs[k].to)], cellsAt (p_1.add (k * 5)) [.int .i64 (cs[k].kind), .int .i64 (cs[k].sp), .int .i64 (cs[k].n), .string (cs[k].frm), .string (cs[k].to)], row kBool 4 A1 c1 on, rd kBool E1 e1 E, blk b_4 28 [.slice A_1 q.length c_1, .slice A_2 m.length c_2, .slice E1 E.length e1], row kBool 4 A_1 c_1 q, row kBool 4 A_2 c_2 m, blk b_3 28 [.slice none 0 0, .slice none 0 0, .slice none 0 0], blk b_2 28 [.slice QA q.length cq, .slice MA m.length cm1, .slice EA e.length ce], blk b_1 25 [.string nm, .slice CA cs.length cc, .slice OA no oc, .string cm], rd kContact CA cc cs, rd kBool IA ci inp, rd kBool QA cq q, rd kBool MA cm1 m, rd kBool EA ce e]
   refine WC.condD rfl (fun hc_2 => ?_) (fun hc_2 => ?_)
   ·
    refine WC.seq ?_
    refine WC.region ?_
    refine WL.quiet (Qt.build tp28 ti28 rfl rfl rfl) rfl rfl ?_
    refine WL.quiet (Qt.assign rfl) rfl rfl ?_
    refine WL.loud (.take 7 rfl (.nil)) (Ld.store ti28 rfl rfl rfl rfl rfl rfl) trivial rfl ?_
    rintro _ _ rfl
    refine WL.quiet (Qt.assign rfl) rfl rfl ?_
    refine WL.nil ?_
    refine WX.next ?_
    refine WC.ret ?_
    refine WX.pass_ret ?_
    refine WX.block_ret ?_
    refine WX.pass_ret ?_
    refine WX.pass_ret ?_
    refine WX.block_ret ?_
    refine WX.pass_ret ?_
    refine WX.turn (.nil) (nil_row (e := kBool) (t := 4)) ?_
    rintro _ rfl
    refine WX.turn (.take 0 rfl (.nil)) (freeze_row) ?_
    rintro _ rfl
    refine WX.turn (.nil) (nil_row (e := kBool) (t := 4)) ?_
    rintro _ rfl
    refine WX.turn (.take 0 rfl (.nil)) (freeze_row) ?_
    rintro _ rfl
    refine WX.retTCT 2 (.u 1 rfl (.u 0 rfl (.nil))) rfl rfl rfl rfl rfl ta28 ti28 rfl ?_
    exact ⟨_, none, 0, [], none, 0, 0, none, 0, 0, none, 0, [], rfl, rfl, fun h => absurd h (by decide)⟩
   ·
    refine WC.skip ?_
    refine WX.next ?_
    refine WC.seq ?_
    refine WC.region ?_
    refine WL.quiet (Qt.move rfl) rfl rfl ?_
    refine WL.quiet (Qt.loadBA 8 rfl ta28 ti28 rfl rfl) rfl rfl ?_
    refine WL.quiet (Qt.fieldAddrB tf56_1 rfl) rfl rfl ?_
    refine WL.quiet (Qt.loadBA 0 rfl ta47 ti47 rfl rfl) rfl rfl ?_
    refine WL.call (.u 11 rfl (.u 12 rfl (.u 13 rfl (.nil)))) (Cl.func cb24 rfl) (refReadW inp q m _ _ _ _ _ _ _ _ _ (cs[k].sp) (cs[k].n)) trivial rfl ?_
    rintro _ _ ⟨rfl, rfl⟩
    refine WL.quiet (Qt.move rfl) rfl rfl ?_
    refine WL.quiet (Qt.extract rfl rfl) rfl rfl ?_
    refine WL.quiet (Qt.extract rfl rfl) rfl rfl ?_
    refine WL.quiet (Qt.assign rfl) rfl rfl ?_
    refine WL.quiet (Qt.assign rfl) rfl rfl ?_
    refine WL.nil ?_
    refine WX.next ?_
    refine WC.seq ?_
    refine WC.seq ?_
    refine WC.region ?_
    refine WL.quiet (Qt.move rfl) rfl rfl ?_
    refine WL.quiet (Qt.neq rfl rfl) rfl rfl ?_
    refine WL.nil ?_
    refine WX.next ?_
    refine WC.condD rfl (fun hc_3 => ?_) (fun hc_3 => ?_)
    ·
     refine WC.seq ?_
     refine WC.region ?_
     refine WL.quiet (Qt.build tp28 ti28 rfl rfl rfl) rfl rfl ?_
     refine WL.quiet (Qt.move rfl) rfl rfl ?_
     refine WL.quiet (Qt.assign rfl) rfl rfl ?_
     refine WL.loud (.take 7 rfl (.nil)) (Ld.store ti28 rfl rfl rfl rfl rfl rfl) trivial rfl ?_
     rintro _ _ rfl
     refine WL.quiet (Qt.assign rfl) rfl rfl ?_
     refine WL.nil ?_
     refine WX.next ?_
     refine WC.ret ?_
     refine WX.pass_ret ?_
     refine WX.block_ret ?_
     refine WX.pass_ret ?_
     refine WX.pass_ret ?_
     refine WX.block_ret ?_
     refine WX.pass_ret ?_
     refine WX.turn (.nil) (nil_row (e := kBool) (t := 4)) ?_
     rintro _ rfl
     refine WX.turn (.take 0 rfl (.nil)) (freeze_row) ?_
     rintro _ rfl
     refine WX.turn (.nil) (nil_row (e := kBool) (t := 4)) ?_
     rintro _ rfl
     refine WX.turn (.take 0 rfl (.nil)) (freeze_row) ?_
     rintro _ rfl
     refine WX.retTCT 2 (.u 1 rfl (.u 0 rfl (.nil))) rfl rfl rfl rfl rfl ta28 ti28 rfl ?_
     exact ⟨_, none, 0, [], none, 0, 0, none, 0, 0, none, 0, [], rfl, rfl, fun h => absurd h (hc_3)⟩
    ·
     refine WC.skip ?_
     refine WX.next ?_
     refine WC.seq ?_
     refine WC.seq ?_
     have hr0 : ((Bits.mk inp q m).rd cs[k].sp cs[k].n).2 = 0 := by first | omega | (exact Classical.not_not.1 hc_3)
     refine WC.region ?_
     refine WL.quiet (Qt.fieldAddrB tf56_0 rfl) rfl rfl ?_
     refine WL.quiet (Qt.loadB 0 rfl ta3 rfl rfl) rfl rfl ?_
     refine WL.quiet (Qt.lss rfl rfl) rfl rfl ?_
     refine WL.nil ?_
     refine WX.next ?_
     refine WC.condD rfl (fun hc_4 => ?_) (fun hc_4 => ?_)
     ·
      refine WC.seq ?_
      refine WC.region ?_
      refine WL.quiet (Qt.move rfl) rfl rfl ?_
      refine WL.quiet (Qt.move rfl) rfl rfl ?_
      refine WL.quiet (Qt.fieldAddrB tf56_0 rfl) rfl rfl ?_
      refine WL.quiet (Qt.loadB 0 rfl ta3 rfl rfl) rfl rfl ?_
      refine WL.quiet (Qt.eql rfl rfl) rfl rfl ?_
      refine WL.quiet (Qt.beql Tryz.underlying4 rfl rfl) rfl rfl ?_
      refine WL.loud (.nil) (Ld.buildSlice (zs := [.bool false]) Tryz.underlying26 ti4 rfl rfl (by kernel_rfl) rfl rfl) trivial rfl ?_
      rintro _ _ ⟨b_6, rfl, rfl⟩
      refine WL.loud (.take 3 rfl (.take 0 rfl (.nil))) (Ld.append1 (e := kBool) (xs := on) ((((Bits.mk inp q m).rd (cs[k].sp) (cs[k].n)).1) == (decide ((cs[k].kind : Int) = 0))) Tryz.underlying26 ti4 rfl (by decide) (by decide) rfl rfl (by first | omega | (simp; omega)) (fun S w h => rfl)) trivial rfl ?_
      rintro _ _ ⟨A_4, c_4, rfl, rfl⟩
      refine WL.quiet (Qt.assign rfl) rfl rfl ?_
      refine WL.nil ?_
      refine WX.next ?_
      refine WC.exit ?_
      refine WX.pass_exit ?_
      refine WX.block_exit ?_
      refine WX.next ?_
      refine WC.region ?_
      refine WL.quiet (Qt.move rfl) rfl rfl ?_
      refine WL.quiet (Qt.add rfl rfl (by omega)) rfl rfl ?_
      refine WL.quiet (Qt.assign rfl) rfl rfl ?_
      refine WL.nil ?_
      exact WX.back (k + 1, A_4, c_4, on ++ [((((Bits.mk inp q m).rd (cs[k].sp) (cs[k].n)).1) == (decide ((cs[k].kind : Int) = 0)))], E1, e1, E) ⟨by omega, RefI.lo hI hjk hc_2 hc_4 hr0⟩ (by first | omega | (dsimp only; omega) | (simp; omega)) ⟨(by first | rfl | (refine congrArg some (congrArg (Value.int .i64) ?_); show _ = ((slotN cs (k + 1) : Nat) : Int); have h9 := RefI.slot_lo hjk hc_4; omega)), (by first | rfl | (refine congrArg some (congrArg (Value.int .i64) ?_); show _ = ((slotN cs (k + 1) : Nat) : Int); have h9 := RefI.slot_lo hjk hc_4; omega)), (by first | rfl | (refine congrArg some (congrArg (Value.int .i64) ?_); show _ = ((slotN cs (k + 1) : Nat) : Int); have h9 := RefI.slot_lo hjk hc_4; omega)), (by first | rfl | (refine congrArg some (congrArg (Value.int .i64) ?_); show _ = ((slotN cs (k + 1) : Nat) : Int); have h9 := RefI.slot_lo hjk hc_4; omega)), (by first | rfl | (refine congrArg some (congrArg (Value.int .i64) ?_); show _ = ((slotN cs (k + 1) : Nat) : Int); have h9 := RefI.slot_lo hjk hc_4; omega)), (by first | rfl | (refine congrArg some (congrArg (Value.int .i64) ?_); show _ = ((slotN cs (k + 1) : Nat) : Int); have h9 := RefI.slot_lo hjk hc_4; omega)), (by first | rfl | (refine congrArg some (congrArg (Value.int .i64) ?_); show _ = ((slotN cs (k + 1) : Nat) : Int); have h9 := RefI.slot_lo hjk hc_4; omega)), (by first | rfl | (refine congrArg some (congrArg (Value.int .i64) ?_); show _ = ((slotN cs (k + 1) : Nat) : Int); have h9 := RefI.slot_lo hjk hc_4; omega)), (by first | rfl | (refine congrArg some (congrArg (Value.int .i64) ?_); show _ = ((slotN cs (k + 1) : Nat) : Int); have h9 := RefI.slot_lo hjk hc_4; omega)), (by first | rfl | (refine congrArg some (congrArg (Value.int .i64) ?_); show _ = ((slotN cs (k + 1) : Nat) : Int); have h9 := RefI.slot_lo hjk hc_4; omega)), (by first | rfl | (refine congrArg some (congrArg (Value.int .i64) ?_); show _ = ((slotN cs (k + 1) : Nat) : Int); have h9 := RefI.slot_lo hjk hc_4; omega)), trivial⟩ (.take 0 rfl (.u 2 rfl (.take 3 rfl (.take 3 rfl (.take 3 rfl (.take 3 rfl (.take 3 rfl (.take 3 rfl (.u 3 rfl (.u 4 rfl (.u 5 rfl (.u 6 rfl (.u 7 rfl (.nil))))))))))))))
     ·
      refine WC.skip ?_
      refine WX.next ?_
      refine WC.seq ?_
      rcases (show (slotN cs k < e.length ∧ 0 < e.length) ∨ (¬ slotN cs k < e.length ∧ e.length = 0) ∨ (¬ slotN cs k < e.length ∧ 0 < e.length) from by omega) with ⟨hs15, he15⟩ | ⟨hs15, he15⟩ | ⟨hs15, he15⟩
      ·
       refine WC.seq ?_
       refine WC.region ?_
       refine WL.quiet (Qt.move rfl) rfl rfl ?_
       refine WL.quiet (Qt.lss rfl rfl) rfl rfl ?_
       refine WL.quiet (Qt.move rfl) rfl rfl ?_
       refine WL.quietG 2 false rfl 67 rfl rfl (Qt.move rfl) rfl ?_
       refine WL.quietG 2 false rfl 67 rfl rfl (Qt.fieldAddrB tf28_2 rfl) rfl ?_
       refine WL.quietG 2 false rfl 67 rfl rfl (Qt.loadB 8 rfl ta26 rfl rfl) rfl ?_
       refine WL.quietG 2 false rfl 67 rfl rfl (Qt.lenS Tryz.underlying26 rfl) rfl ?_
       refine WL.quietG 2 false rfl 67 rfl rfl (Qt.to (Qt.geq rfl rfl) (congrArg Value.bool (decide_eq_false (by omega)))) rfl ?_
       refine WL.quiet (Qt.pickF rfl rfl) rfl rfl ?_
       refine WL.quiet (Qt.move rfl) rfl rfl ?_
       refine WL.quietG 9 false rfl 74 rfl rfl (Qt.move rfl) rfl ?_
       refine WL.quietG 9 false rfl 74 rfl rfl (Qt.fieldAddrB tf28_2 rfl) rfl ?_
       refine WL.quietG 9 false rfl 74 rfl rfl (Qt.loadB 8 rfl ta26 rfl rfl) rfl ?_
       refine WL.quietG 9 false rfl 74 rfl rfl (Qt.lenS Tryz.underlying26 rfl) rfl ?_
       refine WL.quietG 9 false rfl 74 rfl rfl (Qt.move rfl) rfl ?_
       refine WL.quietG 9 false rfl 74 rfl rfl (Qt.sub rfl rfl (by omega)) rfl ?_
       refine WL.quietG 9 false rfl 74 rfl rfl (Qt.to (Qt.geq rfl rfl) (congrArg Value.bool (decide_eq_false (by omega)))) rfl ?_
       refine WL.quiet (Qt.pickF rfl rfl) rfl rfl ?_
       refine WL.nil ?_
       refine WX.next ?_
       refine WC.no rfl ?_
       refine WC.skip ?_
       refine WX.next ?_
       refine WC.seq ?_
       have hsl : slotN cs k < e.length := by omega
       refine WC.region ?_
       refine WL.quiet (Qt.fieldAddrB tf28_2 rfl) rfl rfl ?_
       refine WL.quiet (Qt.loadB 8 rfl ta26 rfl rfl) rfl rfl ?_
       refine WL.quiet (Qt.move rfl) rfl rfl ?_
       refine WL.quiet (Qt.move rfl) rfl rfl ?_
       refine WL.quiet (Qt.to (Qt.add rfl rfl (by omega)) (by rw [Int.zero_add])) rfl rfl ?_
       have hj_2 : (slotN cs k) < e.length := by omega
       refine WL.learn 14 rfl (rd_at (slotN cs k) hj_2 (vBool _)) ?_
       rintro ⟨p_2, ⟨⟩⟩ hA_2
       refine WL.quiet (Qt.indexAddrE (slotN cs k) hA_2 Tryz.underlying26 ti4 rfl rfl (by first | assumption | omega)) rfl rfl ?_
       refine WL.quiet (Qt.loadC (p := p_2.add ((slotN cs k) * 1)) (o := 0) 0 rfl ta4 rfl rfl) rfl rfl ?_
       refine WL.quiet (Qt.assign rfl) rfl rfl ?_
       refine WL.nil ?_
       refine WX.next ?_
       refine WC.seq ?_
       refine WC.region ?_
       refine WL.quiet (Qt.move rfl) rfl rfl ?_
       refine WL.quiet (Qt.move rfl) rfl rfl ?_
       refine WL.quiet (Qt.move rfl) rfl rfl ?_
       refine WL.quiet (Qt.bneq Tryz.underlying4 rfl rfl) rfl rfl ?_
       refine WL.quiet (Qt.move rfl) rfl rfl ?_
       refine WL.splitB 95 rfl rfl (fun hg_2 => ?_) (fun hg_2 => ?_)
       ·
        refine WL.quietG 4 true rfl 95 rfl rfl (Qt.move rfl) rfl ?_
        refine WL.quietG 4 true rfl 95 rfl rfl (Qt.fieldAddrB tf56_0 rfl) rfl ?_
        refine WL.quietG 4 true rfl 95 rfl rfl (Qt.loadB 1 rfl ta3 rfl rfl) rfl ?_
        refine WL.quietG 4 true rfl 95 rfl rfl (Qt.eql rfl rfl) rfl ?_
        refine WL.quietG 4 true rfl 95 rfl rfl (Qt.beql Tryz.underlying4 rfl rfl) rfl ?_
        refine WL.quiet (Qt.pickT rfl rfl) rfl rfl ?_
        refine WL.loud (.nil) (Ld.buildSlice (zs := [.bool false]) Tryz.underlying26 ti4 rfl rfl (by kernel_rfl) rfl rfl) trivial rfl ?_
        rintro _ _ ⟨b_7, rfl, rfl⟩
        refine WL.loud (.take 4 rfl (.take 0 rfl (.nil))) (Ld.append1 (e := kBool) (xs := on) ((((Bits.mk inp q m).rd (cs[k].sp) (cs[k].n)).1) == (decide ((cs[k].kind : Int) = 2))) Tryz.underlying26 ti4 rfl (by decide) (by decide) rfl rfl (by first | omega | (simp; omega)) (fun S w h => rfl)) trivial rfl ?_
        rintro _ _ ⟨A_5, c_5, rfl, rfl⟩
        refine WL.quiet (Qt.assign rfl) rfl rfl ?_
        refine WL.nil ?_
        refine WX.next ?_
        refine WC.seq ?_
        refine WC.region ?_
        refine WL.quiet (Qt.fieldAddrB tf28_2 rfl) rfl rfl ?_
        refine WL.quiet (Qt.loadB 5 rfl ta26 rfl rfl) rfl rfl ?_
        refine WL.quiet (Qt.move rfl) rfl rfl ?_
        refine WL.quiet (Qt.move rfl) rfl rfl ?_
        refine WL.quiet (Qt.to (Qt.add rfl rfl (by omega)) (by rw [Int.zero_add])) rfl rfl ?_
        refine WL.quiet (Qt.move rfl) rfl rfl ?_
        refine WL.call (.u 4 rfl (.nil)) (Cl.func cb25 rfl) (refSetW E (slotN cs k) (((Bits.mk inp q m).rd (cs[k].sp) (cs[k].n)).1) _ _ (by have := hI.len.2; show slotN cs k < E.length; rw [this]; exact hsl) (by have := hI.len.2; rw [this]; omega)) trivial rfl ?_
        rintro _ _ ⟨A_6, c_6, rfl, rfl⟩
        refine WL.turn (.take 0 rfl (.nil)) (freeze_row) ?_
        rintro _ rfl
        refine WL.quiet (Qt.fieldAddrB tf28_2 rfl) rfl rfl ?_
        refine WL.loud (.take 6 rfl (.nil)) (Ld.store ti26 rfl rfl rfl rfl rfl rfl) trivial rfl ?_
        rintro _ _ rfl
        refine WL.nil ?_
        refine WX.next ?_
        refine WC.region ?_
        refine WL.quiet (Qt.move rfl) rfl rfl ?_
        refine WL.quiet (Qt.add rfl rfl (by omega)) rfl rfl ?_
        refine WL.quiet (Qt.assign rfl) rfl rfl ?_
        refine WL.nil ?_
        refine WX.block_end ?_
        refine WX.next ?_
        refine WC.region ?_
        refine WL.quiet (Qt.move rfl) rfl rfl ?_
        refine WL.quiet (Qt.add rfl rfl (by omega)) rfl rfl ?_
        refine WL.quiet (Qt.assign rfl) rfl rfl ?_
        refine WL.nil ?_
        exact WX.back (k + 1, A_5, c_5, on ++ [((((Bits.mk inp q m).rd (cs[k].sp) (cs[k].n)).1) == (decide ((cs[k].kind : Int) = 2)))], A_6, c_6, (E.set (slotN cs k) (((Bits.mk inp q m).rd (cs[k].sp) (cs[k].n)).1))) ⟨by omega, RefI.hi hI hjk hc_2 hc_4 hr0 hsl _ (by first | (rw [show (((Bits.mk inp q m).rd cs[k].sp cs[k].n).1 != e[slotN cs k]) = true from by simpa using hg_2]; rfl) | (rw [show (((Bits.mk inp q m).rd cs[k].sp cs[k].n).1 != e[slotN cs k]) = false from by simpa using hg_2]; rfl))⟩ (by first | omega | (dsimp only; omega) | (simp; omega)) ⟨(by first | rfl | (refine congrArg some (congrArg (Value.int .i64) ?_); show _ = ((slotN cs (k + 1) : Nat) : Int); have h9 := RefI.slot_hi hjk hc_2 hc_4; omega)), (by first | rfl | (refine congrArg some (congrArg (Value.int .i64) ?_); show _ = ((slotN cs (k + 1) : Nat) : Int); have h9 := RefI.slot_hi hjk hc_2 hc_4; omega)), (by first | rfl | (refine congrArg some (congrArg (Value.int .i64) ?_); show _ = ((slotN cs (k + 1) : Nat) : Int); have h9 := RefI.slot_hi hjk hc_2 hc_4; omega)), (by first | rfl | (refine congrArg some (congrArg (Value.int .i64) ?_); show _ = ((slotN cs (k + 1) : Nat) : Int); have h9 := RefI.slot_hi hjk hc_2 hc_4; omega)), (by first | rfl | (refine congrArg some (congrArg (Value.int .i64) ?_); show _ = ((slotN cs (k + 1) : Nat) : Int); have h9 := RefI.slot_hi hjk hc_2 hc_4; omega)), (by first | rfl | (refine congrArg some (congrArg (Value.int .i64) ?_); show _ = ((slotN cs (k + 1) : Nat) : Int); have h9 := RefI.slot_hi hjk hc_2 hc_4; omega)), (by first | rfl | (refine congrArg some (congrArg (Value.int .i64) ?_); show _ = ((slotN cs (k + 1) : Nat) : Int); have h9 := RefI.slot_hi hjk hc_2 hc_4; omega)), (by first | rfl | (refine congrArg some (congrArg (Value.int .i64) ?_); show _ = ((slotN cs (k + 1) : Nat) : Int); have h9 := RefI.slot_hi hjk hc_2 hc_4; omega)), (by first | rfl | (refine congrArg some (congrArg (Value.int .i64) ?_); show _ = ((slotN cs (k + 1) : Nat) : Int); have h9 := RefI.slot_hi hjk hc_2 hc_4; omega)), (by first | rfl | (refine congrArg some (congrArg (Value.int .i64) ?_); show _ = ((slotN cs (k + 1) : Nat) : Int); have h9 := RefI.slot_hi hjk hc_2 hc_4; omega)), (by first | rfl | (refine congrArg some (congrArg (Value.int .i64) ?_); show _ = ((slotN cs (k + 1) : Nat) : Int); have h9 := RefI.slot_hi hjk hc_2 hc_4; omega)), trivial⟩ (.take 2 rfl (.u 1 rfl (.take 0 rfl (.take 5 rfl (.take 5 rfl (.take 5 rfl (.take 5 rfl (.take 5 rfl (.u 5 rfl (.u 6 rfl (.u 7 rfl (.u 8 rfl (.u 9 rfl (.nil))))))))))))))
       ·
        refine WL.skipG 4 true false rfl 95 rfl rfl rfl rfl ?_
        refine WL.skipG 4 true false rfl 95 rfl rfl rfl rfl ?_
        refine WL.skipG 4 true false rfl 95 rfl rfl rfl rfl ?_
        refine WL.skipG 4 true false rfl 95 rfl rfl rfl rfl ?_
        refine WL.skipG 4 true false rfl 95 rfl rfl rfl rfl ?_
        refine WL.quiet (Qt.pickF rfl rfl) rfl rfl ?_
        refine WL.loud (.nil) (Ld.buildSlice (zs := [.bool false]) Tryz.underlying26 ti4 rfl rfl (by kernel_rfl) rfl rfl) trivial rfl ?_
        rintro _ _ ⟨b_8, rfl, rfl⟩
        refine WL.loud (.take 4 rfl (.take 0 rfl (.nil))) (Ld.append1 (e := kBool) (xs := on) false Tryz.underlying26 ti4 rfl (by decide) (by decide) rfl rfl (by first | omega | (simp; omega)) (fun S w h => rfl)) trivial rfl ?_
        rintro _ _ ⟨A_7, c_7, rfl, rfl⟩
        refine WL.quiet (Qt.assign rfl) rfl rfl ?_
        refine WL.nil ?_
        refine WX.next ?_
        refine WC.seq ?_
        refine WC.region ?_
        refine WL.quiet (Qt.fieldAddrB tf28_2 rfl) rfl rfl ?_
        refine WL.quiet (Qt.loadB 5 rfl ta26 rfl rfl) rfl rfl ?_
        refine WL.quiet (Qt.move rfl) rfl rfl ?_
        refine WL.quiet (Qt.move rfl) rfl rfl ?_
        refine WL.quiet (Qt.to (Qt.add rfl rfl (by omega)) (by rw [Int.zero_add])) rfl rfl ?_
        refine WL.quiet (Qt.move rfl) rfl rfl ?_
        refine WL.call (.u 4 rfl (.nil)) (Cl.func cb25 rfl) (refSetW E (slotN cs k) (((Bits.mk inp q m).rd (cs[k].sp) (cs[k].n)).1) _ _ (by have := hI.len.2; show slotN cs k < E.length; rw [this]; exact hsl) (by have := hI.len.2; rw [this]; omega)) trivial rfl ?_
        rintro _ _ ⟨A_8, c_8, rfl, rfl⟩
        refine WL.turn (.take 0 rfl (.nil)) (freeze_row) ?_
        rintro _ rfl
        refine WL.quiet (Qt.fieldAddrB tf28_2 rfl) rfl rfl ?_
        refine WL.loud (.take 6 rfl (.nil)) (Ld.store ti26 rfl rfl rfl rfl rfl rfl) trivial rfl ?_
        rintro _ _ rfl
        refine WL.nil ?_
        refine WX.next ?_
        refine WC.region ?_
        refine WL.quiet (Qt.move rfl) rfl rfl ?_
        refine WL.quiet (Qt.add rfl rfl (by omega)) rfl rfl ?_
        refine WL.quiet (Qt.assign rfl) rfl rfl ?_
        refine WL.nil ?_
        refine WX.block_end ?_
        refine WX.next ?_
        refine WC.region ?_
        refine WL.quiet (Qt.move rfl) rfl rfl ?_
        refine WL.quiet (Qt.add rfl rfl (by omega)) rfl rfl ?_
        refine WL.quiet (Qt.assign rfl) rfl rfl ?_
        refine WL.nil ?_
        exact WX.back (k + 1, A_7, c_7, on ++ [false], A_8, c_8, (E.set (slotN cs k) (((Bits.mk inp q m).rd (cs[k].sp) (cs[k].n)).1))) ⟨by omega, RefI.hi hI hjk hc_2 hc_4 hr0 hsl _ (by first | (rw [show (((Bits.mk inp q m).rd cs[k].sp cs[k].n).1 != e[slotN cs k]) = true from by simpa using hg_2]; rfl) | (rw [show (((Bits.mk inp q m).rd cs[k].sp cs[k].n).1 != e[slotN cs k]) = false from by simpa using hg_2]; rfl))⟩ (by first | omega | (dsimp only; omega) | (simp; omega)) ⟨(by first | rfl | (refine congrArg some (congrArg (Value.int .i64) ?_); show _ = ((slotN cs (k + 1) : Nat) : Int); have h9 := RefI.slot_hi hjk hc_2 hc_4; omega)), (by first | rfl | (refine congrArg some (congrArg (Value.int .i64) ?_); show _ = ((slotN cs (k + 1) : Nat) : Int); have h9 := RefI.slot_hi hjk hc_2 hc_4; omega)), (by first | rfl | (refine congrArg some (congrArg (Value.int .i64) ?_); show _ = ((slotN cs (k + 1) : Nat) : Int); have h9 := RefI.slot_hi hjk hc_2 hc_4; omega)), (by first | rfl | (refine congrArg some (congrArg (Value.int .i64) ?_); show _ = ((slotN cs (k + 1) : Nat) : Int); have h9 := RefI.slot_hi hjk hc_2 hc_4; omega)), (by first | rfl | (refine congrArg some (congrArg (Value.int .i64) ?_); show _ = ((slotN cs (k + 1) : Nat) : Int); have h9 := RefI.slot_hi hjk hc_2 hc_4; omega)), (by first | rfl | (refine congrArg some (congrArg (Value.int .i64) ?_); show _ = ((slotN cs (k + 1) : Nat) : Int); have h9 := RefI.slot_hi hjk hc_2 hc_4; omega)), (by first | rfl | (refine congrArg some (congrArg (Value.int .i64) ?_); show _ = ((slotN cs (k + 1) : Nat) : Int); have h9 := RefI.slot_hi hjk hc_2 hc_4; omega)), (by first | rfl | (refine congrArg some (congrArg (Value.int .i64) ?_); show _ = ((slotN cs (k + 1) : Nat) : Int); have h9 := RefI.slot_hi hjk hc_2 hc_4; omega)), (by first | rfl | (refine congrArg some (congrArg (Value.int .i64) ?_); show _ = ((slotN cs (k + 1) : Nat) : Int); have h9 := RefI.slot_hi hjk hc_2 hc_4; omega)), (by first | rfl | (refine congrArg some (congrArg (Value.int .i64) ?_); show _ = ((slotN cs (k + 1) : Nat) : Int); have h9 := RefI.slot_hi hjk hc_2 hc_4; omega)), (by first | rfl | (refine congrArg some (congrArg (Value.int .i64) ?_); show _ = ((slotN cs (k + 1) : Nat) : Int); have h9 := RefI.slot_hi hjk hc_2 hc_4; omega)), trivial⟩ (.take 2 rfl (.u 1 rfl (.take 0 rfl (.take 5 rfl (.take 5 rfl (.take 5 rfl (.take 5 rfl (.take 5 rfl (.u 5 rfl (.u 6 rfl (.u 7 rfl (.u 8 rfl (.u 9 rfl (.nil))))))))))))))
      ·
       refine WC.seq ?_
       refine WC.region ?_
       refine WL.quiet (Qt.move rfl) rfl rfl ?_
       refine WL.quiet (Qt.lss rfl rfl) rfl rfl ?_
       refine WL.quiet (Qt.move rfl) rfl rfl ?_
       refine WL.quietG 2 false rfl 67 rfl rfl (Qt.move rfl) rfl ?_
       refine WL.quietG 2 false rfl 67 rfl rfl (Qt.fieldAddrB tf28_2 rfl) rfl ?_
       refine WL.quietG 2 false rfl 67 rfl rfl (Qt.loadB 8 rfl ta26 rfl rfl) rfl ?_
       refine WL.quietG 2 false rfl 67 rfl rfl (Qt.lenS Tryz.underlying26 rfl) rfl ?_
       refine WL.quietG 2 false rfl 67 rfl rfl (Qt.to (Qt.geq rfl rfl) (congrArg Value.bool (decide_eq_true (by omega)))) rfl ?_
       refine WL.quiet (Qt.pickF rfl rfl) rfl rfl ?_
       refine WL.quiet (Qt.move rfl) rfl rfl ?_
       refine WL.skipG 9 false true rfl 74 rfl rfl rfl rfl ?_
       refine WL.skipG 9 false true rfl 74 rfl rfl rfl rfl ?_
       refine WL.skipG 9 false true rfl 74 rfl rfl rfl rfl ?_
       refine WL.skipG 9 false true rfl 74 rfl rfl rfl rfl ?_
       refine WL.skipG 9 false true rfl 74 rfl rfl rfl rfl ?_
       refine WL.skipG 9 false true rfl 74 rfl rfl rfl rfl ?_
       refine WL.skipG 9 false true rfl 74 rfl rfl rfl rfl ?_
       refine WL.quiet (Qt.pickT rfl rfl) rfl rfl ?_
       refine WL.nil ?_
       refine WX.next ?_
       refine WC.yes rfl ?_
       refine WC.seq ?_
       refine WC.region ?_
       refine WL.quiet (Qt.build tp28 ti28 rfl rfl rfl) rfl rfl ?_
       refine WL.quiet (Qt.assign rfl) rfl rfl ?_
       refine WL.loud (.take 7 rfl (.nil)) (Ld.store ti28 rfl rfl rfl rfl rfl rfl) trivial rfl ?_
       rintro _ _ rfl
       refine WL.quiet (Qt.assign rfl) rfl rfl ?_
       refine WL.nil ?_
       refine WX.next ?_
       refine WC.ret ?_
       refine WX.pass_ret ?_
       refine WX.block_ret ?_
       refine WX.pass_ret ?_
       refine WX.pass_ret ?_
       refine WX.block_ret ?_
       refine WX.pass_ret ?_
       refine WX.turn (.nil) (nil_row (e := kBool) (t := 4)) ?_
       rintro _ rfl
       refine WX.turn (.take 0 rfl (.nil)) (freeze_row) ?_
       rintro _ rfl
       refine WX.turn (.nil) (nil_row (e := kBool) (t := 4)) ?_
       rintro _ rfl
       refine WX.turn (.take 0 rfl (.nil)) (freeze_row) ?_
       rintro _ rfl
       refine WX.retTCT 2 (.u 1 rfl (.u 0 rfl (.nil))) rfl rfl rfl rfl rfl ta28 ti28 rfl ?_
       exact ⟨_, none, 0, [], none, 0, 0, none, 0, 0, none, 0, [], rfl, rfl, fun h => absurd h (by decide)⟩
      ·
       refine WC.seq ?_
       refine WC.region ?_
       refine WL.quiet (Qt.move rfl) rfl rfl ?_
       refine WL.quiet (Qt.lss rfl rfl) rfl rfl ?_
       refine WL.quiet (Qt.move rfl) rfl rfl ?_
       refine WL.quietG 2 false rfl 67 rfl rfl (Qt.move rfl) rfl ?_
       refine WL.quietG 2 false rfl 67 rfl rfl (Qt.fieldAddrB tf28_2 rfl) rfl ?_
       refine WL.quietG 2 false rfl 67 rfl rfl (Qt.loadB 8 rfl ta26 rfl rfl) rfl ?_
       refine WL.quietG 2 false rfl 67 rfl rfl (Qt.lenS Tryz.underlying26 rfl) rfl ?_
       refine WL.quietG 2 false rfl 67 rfl rfl (Qt.to (Qt.geq rfl rfl) (congrArg Value.bool (decide_eq_false (by omega)))) rfl ?_
       refine WL.quiet (Qt.pickF rfl rfl) rfl rfl ?_
       refine WL.quiet (Qt.move rfl) rfl rfl ?_
       refine WL.quietG 9 false rfl 74 rfl rfl (Qt.move rfl) rfl ?_
       refine WL.quietG 9 false rfl 74 rfl rfl (Qt.fieldAddrB tf28_2 rfl) rfl ?_
       refine WL.quietG 9 false rfl 74 rfl rfl (Qt.loadB 8 rfl ta26 rfl rfl) rfl ?_
       refine WL.quietG 9 false rfl 74 rfl rfl (Qt.lenS Tryz.underlying26 rfl) rfl ?_
       refine WL.quietG 9 false rfl 74 rfl rfl (Qt.move rfl) rfl ?_
       refine WL.quietG 9 false rfl 74 rfl rfl (Qt.sub rfl rfl (by omega)) rfl ?_
       refine WL.quietG 9 false rfl 74 rfl rfl (Qt.to (Qt.geq rfl rfl) (congrArg Value.bool (decide_eq_true (by omega)))) rfl ?_
       refine WL.quiet (Qt.pickF rfl rfl) rfl rfl ?_
       refine WL.nil ?_
       refine WX.next ?_
       refine WC.yes rfl ?_
       refine WC.seq ?_
       refine WC.region ?_
       refine WL.quiet (Qt.build tp28 ti28 rfl rfl rfl) rfl rfl ?_
       refine WL.quiet (Qt.assign rfl) rfl rfl ?_
       refine WL.loud (.take 7 rfl (.nil)) (Ld.store ti28 rfl rfl rfl rfl rfl rfl) trivial rfl ?_
       rintro _ _ rfl
       refine WL.quiet (Qt.assign rfl) rfl rfl ?_
       refine WL.nil ?_
       refine WX.next ?_
       refine WC.ret ?_
       refine WX.pass_ret ?_
       refine WX.block_ret ?_
       refine WX.pass_ret ?_
       refine WX.pass_ret ?_
       refine WX.block_ret ?_
       refine WX.pass_ret ?_
       refine WX.turn (.nil) (nil_row (e := kBool) (t := 4)) ?_
       rintro _ rfl
       refine WX.turn (.take 0 rfl (.nil)) (freeze_row) ?_
       rintro _ rfl
       refine WX.turn (.nil) (nil_row (e := kBool) (t := 4)) ?_
       rintro _ rfl
       refine WX.turn (.take 0 rfl (.nil)) (freeze_row) ?_
       rintro _ rfl
       refine WX.retTCT 2 (.u 1 rfl (.u 0 rfl (.nil))) rfl rfl rfl rfl rfl ta28 ti28 rfl ?_
       exact ⟨_, none, 0, [], none, 0, 0, none, 0, 0, none, 0, [], rfl, rfl, fun h => absurd h (by decide)⟩
 ·
  refine WC.exit ?_
  refine WX.pass_exit ?_
  refine WX.pass_exit ?_
  refine WX.block_exit ?_
  refine WX.next ?_
  refine WC.seq ?_
  refine WC.calm (Calm.then (calm_FQ _ _)) fun hC => ?_
  refine WC.draw (Γq := [row kBool 4 A1 c1 on, rd kBool E1 e1 E, blk b_4 28 [.slice A_1 q.length c_1, .slice A_2 m.length c_2, .slice E1 E.length e1], row kBool 4 A_1 c_1 q, row kBool 4 A_2 c_2 m, blk b_3 28 [.slice none 0 0, .slice none 0 0, .slice none 0 0], blk b_2 28 [.slice QA q.length cq, .slice MA m.length cm1, .slice EA e.length ce], blk b_1 25 [.string nm, .slice CA cs.length cc, .slice OA no oc, .string cm], rd kContact CA cc cs, rd kBool IA ci inp, rd kBool QA cq q, rd kBool MA cm1 m, rd kBool EA ce e]) [0, 1, 2] mixed ?_
  refine WA.named (.take 0 rfl (.u 0 rfl (.take 1 rfl (.take 1 rfl (.take 1 rfl (.take 1 rfl (.take 1 rfl (.take 1 rfl (.u 1 rfl (.u 2 rfl (.u 3 rfl (.u 4 rfl (.u 5 rfl (.nil)))))))))))))) fun sl_1 => ?_
  refine WA.tk 0 (by kernel_rfl) rfl hC (Qt.move rfl) trivial rfl sl_1 ?_
  refine WA.tk 1 (by kernel_rfl) rfl hC (Qt.loadBA 2 rfl ta28 ti28 rfl rfl) trivial rfl sl_1 ?_
  refine WA.tk 2 (by kernel_rfl) rfl hC (Qt.assign rfl) trivial rfl sl_1 ?_
  refine WA.phase (K' := [0, 1, 2, 3]) (Γq' := [row kBool 4 A1 c1 on, rd kBool E1 e1 E, blk b_4 28 [.slice A_1 q.length c_1, .slice A_2 m.length c_2, .slice E1 E.length e1], row kBool 4 A_1 c_1 q, row kBool 4 A_2 c_2 m, blk b_2 28 [.slice QA q.length cq, .slice MA m.length cm1, .slice EA e.length ce], blk b_1 25 [.string nm, .slice CA cs.length cc, .slice OA no oc, .string cm], rd kContact CA cc cs, rd kBool IA ci inp, rd kBool QA cq q, rd kBool MA cm1 m, rd kBool EA ce e]) (by kernel_rfl) ?_
  refine WA.one 3 (by kernel_rfl) ?_
  refine WO.loud rfl (.take 5 rfl (.nil)) (Ld.store ti28 rfl rfl rfl rfl rfl rfl) trivial rfl (by rintro _ _ rfl; exact ⟨_, (.take 1 rfl (.u 1 rfl (.take 2 rfl (.take 2 rfl (.take 2 rfl (.take 2 rfl (.take 2 rfl (.u 2 rfl (.u 3 rfl (.u 4 rfl (.u 5 rfl (.u 6 rfl (.nil)))))))))))))⟩) ?_
  rintro _ _ rfl
  refine WA.phase (K' := [0, 1, 2, 3, 4]) (Γq' := [blk b_3 28 [.slice A_1 q.length c_1, .slice A_2 m.length c_2, .slice E1 E.length e1], row kBool 4 A1 c1 on, rd kBool E1 e1 E, blk b_4 28 [.slice A_1 q.length c_1, .slice A_2 m.length c_2, .slice E1 E.length e1], row kBool 4 A_1 c_1 q, row kBool 4 A_2 c_2 m, blk b_2 28 [.slice QA q.length cq, .slice MA m.length cm1, .slice EA e.length ce], blk b_1 25 [.string nm, .slice CA cs.length cc, .slice OA no oc, .string cm], rd kContact CA cc cs, rd kBool IA ci inp, rd kBool QA cq q, rd kBool MA cm1 m, rd kBool EA ce e]) (by kernel_rfl) ?_
  refine WA.named (.take 0 rfl (.take 0 rfl (.u 0 rfl (.take 1 rfl (.take 1 rfl (.take 1 rfl (.take 1 rfl (.take 1 rfl (.u 1 rfl (.u 2 rfl (.u 3 rfl (.u 4 rfl (.u 5 rfl (.nil)))))))))))))) fun sl_2 => ?_
  refine WA.tk 4 (by kernel_rfl) rfl hC (Qt.assign rfl) trivial rfl sl_2 ?_
  refine WA.done (by kernel_rfl) ?_
  refine WX.next ?_
  refine WC.ret ?_
  refine WX.turn (.take 1 rfl (.nil)) (freeze_row) ?_
  rintro _ rfl
  have hke : k = cs.length := by omega
  rw [hke] at hI
  refine WX.retTCT 1 (.u 0 rfl (.u 2 rfl (.nil))) rfl rfl rfl rfl rfl ta28 ti28 rfl ?_
  exact ⟨0, _, _, _, _, _, _, _, _, _, _, _, _, rfl, rfl, fun _ => hI⟩

end Go.Proofs.YtolggjmgfijjfaaGreatDoor.Sep

/- A walk, printed by gen.py out of hints. -/
namespace Go.Proofs.YtolggjmgfijjfaaGreatDoor.Sep
open Go
variable {μ : Prop}
theorem evalC1W (x : PT) (on : List Bool) (OA A : Option Addr) (oc c b3 : Nat) (hev : Spec μ Tryz.prog 31 #[.agg [.int .i64 x.kind, .int .i64 x.n, .slice A x.kids.length c].toArray, .slice OA on.length oc] [rd kTree A c x.kids, rd kBool OA oc on] fun v Δ => v = .bool (evalT (evOn on) x) ∧ Δ = []) : Spec μ Tryz.prog 53 #[.agg [.int .i64 x.kind, .int .i64 x.n, .slice A x.kids.length c].toArray, .pointer (some ⟨b3, 0, none⟩)] [blk b3 26 [.slice OA on.length oc], rd kBool OA oc on, rd kTree A c x.kids] fun v Δ => v = .bool (evalT (evOn on) x) ∧ Δ = [blk b3 26 [.slice OA on.length oc], rd kBool OA oc on] := by
 refine Spec.of_body (n := 7) Tryz.func53 rfl rfl rfl fun w0 S0 O0 => ?_
 show WC _ _ _ _ _ _ [(0, .agg [.int .i64 x.kind, .int .i64 x.n, .slice A x.kids.length c].toArray), (1, .pointer (some ⟨b3, 0, none⟩))] [blk b3 26 [.slice OA on.length oc], rd kBool OA oc on, rd kTree A c x.kids]
 refine WC.seq ?_
 refine WC.region ?_
 refine WL.loud (.nil) (Ld.box rfl rfl) trivial rfl ?_
 rintro _ _ ⟨b_1, rfl, rfl⟩
 refine WL.quiet (Qt.assign rfl) rfl rfl ?_
 refine WL.nil ?_
 refine WX.next ?_
 refine WC.seq ?_
 refine WC.region ?_
 refine WL.quiet (Qt.loadBA 0 rfl ta33 ti33 rfl rfl) rfl rfl ?_
 refine WL.quiet (Qt.loadB 1 rfl ta26 rfl rfl) rfl rfl ?_
 refine WL.call (.u 3 rfl (.u 2 rfl (.nil))) (Cl.func cb31 rfl) (hev) trivial rfl ?_
 rintro _ _ ⟨rfl, rfl⟩
 refine WL.quiet (Qt.assign rfl) rfl rfl ?_
 refine WL.nil ?_
 refine WX.next ?_
 refine WC.ret ?_
 refine WX.ret1 (.take 1 rfl (.u 1 rfl (.nil))) rfl rfl ?_
 exact ⟨rfl, rfl⟩

end Go.Proofs.YtolggjmgfijjfaaGreatDoor.Sep

/- A walk, printed by gen.py out of hints. -/
namespace Go.Proofs.YtolggjmgfijjfaaGreatDoor.Sep
open Go
variable {μ : Prop}
theorem evalC2W (x : PT) (on : List Bool) (OA A : Option Addr) (oc c b3 b5 : Nat) (hev : Spec μ Tryz.prog 31 #[.agg [.int .i64 x.kind, .int .i64 x.n, .slice A x.kids.length c].toArray, .slice OA on.length oc] [rd kTree A c x.kids, rd kBool OA oc on] fun v Δ => v = .bool (evalT (evOn on) x) ∧ Δ = []) : Spec μ Tryz.prog 55 #[.agg [.int .i64 x.kind, .int .i64 x.n, .slice A x.kids.length c].toArray, .pointer (some ⟨b5, 0, none⟩)] [blk b5 126 [.func (.func 53) #[] [.pointer (some ⟨b3, 0, none⟩)].toArray], blk b3 26 [.slice OA on.length oc], rd kBool OA oc on, rd kTree A c x.kids] fun v Δ => v = .bool (!evalT (evOn on) x) ∧ Δ = [blk b5 126 [.func (.func 53) #[] [.pointer (some ⟨b3, 0, none⟩)].toArray], blk b3 26 [.slice OA on.length oc], rd kBool OA oc on] := by
 refine Spec.of_body (n := 8) Tryz.func55 rfl rfl rfl fun w0 S0 O0 => ?_
 show WC _ _ _ _ _ _ [(0, .agg [.int .i64 x.kind, .int .i64 x.n, .slice A x.kids.length c].toArray), (1, .pointer (some ⟨b5, 0, none⟩))] [blk b5 126 [.func (.func 53) #[] [.pointer (some ⟨b3, 0, none⟩)].toArray], blk b3 26 [.slice OA on.length oc], rd kBool OA oc on, rd kTree A c x.kids]
 refine WC.seq ?_
 refine WC.region ?_
 refine WL.loud (.nil) (Ld.box rfl rfl) trivial rfl ?_
 rintro _ _ ⟨b_1, rfl, rfl⟩
 refine WL.quiet (Qt.assign rfl) rfl rfl ?_
 refine WL.nil ?_
 refine WX.next ?_
 refine WC.seq ?_
 refine WC.region ?_
 refine WL.quiet (Qt.loadB 1 rfl ta126 rfl rfl) rfl rfl ?_
 refine WL.quiet (Qt.loadBA 0 rfl ta33 ti33 rfl rfl) rfl rfl ?_
 refine WL.call (.take 2 rfl (.u 2 rfl (.u 3 rfl (.nil)))) (Cl.val cb53 rfl rfl) (evalC1W x on _ _ _ _ _ hev) trivial rfl ?_
 rintro _ _ ⟨rfl, rfl⟩
 refine WL.quiet (Qt.not rfl) rfl rfl ?_
 refine WL.quiet (Qt.assign rfl) rfl rfl ?_
 refine WL.nil ?_
 refine WX.next ?_
 refine WC.ret ?_
 refine WX.ret1 (.take 3 rfl (.take 0 rfl (.u 0 rfl (.nil)))) rfl rfl ?_
 exact ⟨rfl, rfl⟩

end Go.Proofs.YtolggjmgfijjfaaGreatDoor.Sep

/- A walk, printed by gen.py out of hints. -/
namespace Go.Proofs.YtolggjmgfijjfaaGreatDoor.Sep
open Go
variable {μ : Prop}
theorem evalW_ih (m : Nat) : ∀ (t : PT) (on : List Bool) (A OA : Option Addr) (c oc : Nat), SizeOf.sizeOf t < m → (TOk on.length t) → Spec μ Tryz.prog 31 #[.agg [.int .i64 t.kind, .int .i64 t.n, .slice A t.kids.length c].toArray, .slice OA on.length oc] [rd kTree A c t.kids, rd kBool OA oc on] fun v Δ => v = .bool (evalT (evOn on) t) ∧ Δ = [] := by
 induction m with
 | zero => exact fun t on A OA c oc h => absurd h (Nat.not_lt_zero _)
 | succ m ih =>
 intro t on A OA c oc hsz hok
 refine Spec.of_body (n := 27) Tryz.func31 rfl rfl rfl fun w0 S0 O0 => ?_
 show WC _ _ _ _ _ _ [(0, .agg [.int .i64 t.kind, .int .i64 t.n, .slice A t.kids.length c].toArray), (1, .slice OA on.length oc)] [rd kTree A c t.kids, rd kBool OA oc on]
 refine WC.learn (Z := Unit) (Δ := fun _ => []) (φ := fun _ => t.kids.length ≤ c ∧ c ≤ 9223372036854775807) 0 rfl (fun S w h => ⟨(), rd_bounds h, nofacts⟩) ?_
 rintro _ ⟨hb_1, hb_2⟩
 refine WC.learn (Z := Unit) (Δ := fun _ => []) (φ := fun _ => on.length ≤ oc ∧ oc ≤ 9223372036854775807) 1 rfl (fun S w h => ⟨(), rd_bounds h, nofacts⟩) ?_
 rintro _ ⟨hb_3, hb_4⟩
 refine WC.seq ?_
 refine WC.region ?_
 refine WL.loud (.nil) (Ld.box rfl rfl) trivial rfl ?_
 rintro _ _ ⟨b_1, rfl, rfl⟩
 refine WL.loud (.nil) (Ld.box rfl rfl) trivial rfl ?_
 rintro _ _ ⟨b_2, rfl, rfl⟩
 refine WL.quiet (Qt.assign rfl) rfl rfl ?_
 refine WL.nil ?_
 refine WX.next ?_
 refine WC.seq ?_
 refine WC.region ?_
 refine WL.quiet (Qt.makeFunc (vs := []) rfl rfl) rfl rfl ?_
 refine WL.loud (.nil) (Ld.alloc ti126 rfl) trivial rfl ?_
 rintro _ _ ⟨b_3, rfl, rfl⟩
 refine WL.loud (.take 0 rfl (.nil)) (Ld.store ti126 rfl rfl rfl rfl rfl rfl) trivial rfl ?_
 rintro _ _ rfl
 refine WL.nil ?_
 refine WX.next ?_
 refine WC.seq ?_
 refine WC.seq ?_
 refine WC.region ?_
 refine WL.quiet (Qt.fieldAddrB tf33_0 rfl) rfl rfl ?_
 refine WL.quiet (Qt.loadB 2 rfl ta3 rfl rfl) rfl rfl ?_
 refine WL.nil ?_
 refine WX.next ?_
 refine WC.block ?_
 refine WC.seq ?_
 refine WC.region ?_
 refine WL.quiet (Qt.eql rfl rfl) rfl rfl ?_
 refine WL.quiet (Qt.assign rfl) rfl rfl ?_
 refine WL.nil ?_
 refine WX.next ?_
 refine WC.condD rfl (fun hc_1 => ?_) (fun hc_1 => ?_)
 ·
  refine WC.seq ?_
  refine WC.region ?_
  refine WL.quiet (Qt.fieldAddrB tf33_2 rfl) rfl rfl ?_
  refine WL.quiet (Qt.loadB 2 rfl ta31 rfl rfl) rfl rfl ?_
  refine WL.quiet (Qt.makeFunc (vs := []) rfl rfl) rfl rfl ?_
  refine WL.turn (.take 0 rfl (.take 0 rfl (.u 2 rfl (.nil)))) (conj_pack) ?_
  rintro _ rfl
  refine WL.call (.u 2 rfl (.take 0 rfl (.nil))) (Cl.func cb54 rfl) (containsTreeW t.kids _ _ 55 [.pointer (some ⟨b_3, 0, none⟩)] (conj [blk b_3 126 [.func (.func 53) #[] [.pointer (some ⟨b_2, 0, none⟩)].toArray], blk b_2 26 [.slice OA on.length oc], rd kBool OA oc on]) (fun x => !evalT (evOn on) x) cb55 (fun k hk A2 c2 => Spec.less (.take 1 rfl (.use 0 rfl (fun _ h => h) .nil)) (Spec.packed (U := [blk b_3 126 [.func (.func 53) #[] [.pointer (some ⟨b_2, 0, none⟩)].toArray], blk b_2 26 [.slice OA on.length oc], rd kBool OA oc on]) (V := [rd kTree A2 c2 t.kids[k].kids]) (evalC2W t.kids[k] on _ _ _ _ b_2 b_3 (ih t.kids[k] on _ _ _ _ (by have := kid_size t k hk; omega) (hok.kid (by omega) (List.getElem_mem hk))))))) trivial rfl ?_
  rintro _ _ ⟨rfl, rfl⟩
  refine WL.quiet (Qt.not rfl) rfl rfl ?_
  refine WL.quiet (Qt.assign rfl) rfl rfl ?_
  refine WL.nil ?_
  refine WX.next ?_
  refine WC.ret ?_
  refine WX.block_ret ?_
  refine WX.pass_ret ?_
  refine WX.ret1 (.nil) rfl rfl ?_
  exact ⟨by rw [evalT_1 _ t (by omega)], rfl⟩
 ·
  refine WC.seq ?_
  refine WC.region ?_
  refine WL.quiet (Qt.eql rfl rfl) rfl rfl ?_
  refine WL.quiet (Qt.assign rfl) rfl rfl ?_
  refine WL.nil ?_
  refine WX.next ?_
  refine WC.condD rfl (fun hc_2 => ?_) (fun hc_2 => ?_)
  ·
   refine WC.seq ?_
   refine WC.region ?_
   refine WL.quiet (Qt.fieldAddrB tf33_2 rfl) rfl rfl ?_
   refine WL.quiet (Qt.loadB 2 rfl ta31 rfl rfl) rfl rfl ?_
   refine WL.quiet (Qt.loadB 0 rfl ta126 rfl rfl) rfl rfl ?_
   refine WL.turn (.take 1 rfl (.u 3 rfl (.nil))) (conj_pack) ?_
   rintro _ rfl
   refine WL.call (.u 3 rfl (.take 0 rfl (.nil))) (Cl.func cb54 rfl) (containsTreeW t.kids _ _ 53 [.pointer (some ⟨b_2, 0, none⟩)] (conj [blk b_2 26 [.slice OA on.length oc], rd kBool OA oc on]) (fun x => evalT (evOn on) x) cb53 (fun k hk A2 c2 => Spec.less (.take 1 rfl (.use 0 rfl (fun _ h => h) .nil)) (Spec.packed (U := [blk b_2 26 [.slice OA on.length oc], rd kBool OA oc on]) (V := [rd kTree A2 c2 t.kids[k].kids]) (evalC1W t.kids[k] on _ _ _ _ b_2 (ih t.kids[k] on _ _ _ _ (by have := kid_size t k hk; omega) (hok.kid (by omega) (List.getElem_mem hk))))))) trivial rfl ?_
   rintro _ _ ⟨rfl, rfl⟩
   refine WL.quiet (Qt.assign rfl) rfl rfl ?_
   refine WL.nil ?_
   refine WX.next ?_
   refine WC.ret ?_
   refine WX.block_ret ?_
   refine WX.pass_ret ?_
   refine WX.ret1 (.nil) rfl rfl ?_
   exact ⟨by rw [evalT_2 _ t (by omega)], rfl⟩
  ·
   refine WC.skip ?_
   refine WX.block_end ?_
   refine WX.next ?_
   refine WC.seq ?_
   have hlf := hok.leaf (by have := fun h => (hok.shape h).1; omega)
   obtain ⟨i, hi⟩ := Int.eq_ofNat_of_zero_le (show 0 ≤ t.n from by omega)
   rw [hi]
   refine WC.region ?_
   refine WL.quiet (Qt.loadB 1 rfl ta26 rfl rfl) rfl rfl ?_
   refine WL.quiet (Qt.fieldAddrB tf33_1 rfl) rfl rfl ?_
   refine WL.quiet (Qt.loadB 2 rfl ta3 rfl rfl) rfl rfl ?_
   have hj_1 : i < on.length := by omega
   refine WL.learn 4 rfl (rd_at i hj_1 (vBool _)) ?_
   rintro ⟨p_1, ⟨⟩⟩ hA_1
   refine WL.quiet (Qt.indexAddrE i hA_1 Tryz.underlying26 ti4 rfl rfl (by first | assumption | omega)) rfl rfl ?_
   refine WL.quiet (Qt.loadC (p := p_1.add (i * 1)) (o := 0) 0 rfl ta4 rfl rfl) rfl rfl ?_
   refine WL.quiet (Qt.assign rfl) rfl rfl ?_
   refine WL.nil ?_
   refine WX.next ?_
   refine WC.ret ?_
   refine WX.ret1 (.nil) rfl rfl ?_
   exact ⟨by rw [evalT_0 _ t (by omega) (by omega), hi, Int.toNat_natCast, evOn_get (by omega)], rfl⟩
theorem evalW (t : PT) (on : List Bool) (A OA : Option Addr) (c oc : Nat) (hok : TOk on.length t) : Spec μ Tryz.prog 31 #[.agg [.int .i64 t.kind, .int .i64 t.n, .slice A t.kids.length c].toArray, .slice OA on.length oc] [rd kTree A c t.kids, rd kBool OA oc on] fun v Δ => v = .bool (evalT (evOn on) t) ∧ Δ = [] := evalW_ih _ t on A OA c oc (Nat.lt_succ_self _) hok

end Go.Proofs.YtolggjmgfijjfaaGreatDoor.Sep

/- A walk, printed by gen.py out of hints. -/
namespace Go.Proofs.YtolggjmgfijjfaaGreatDoor.Sep
open Go
variable {μ : Prop}
theorem treeEvalW (t : PT) (on : List Bool) (A OA : Option Addr) (c oc : Nat) (hv : Vld (on.length : Int) [] t ∧ (t.leaves.length : Int) = max 0 (on.length : Int)) : Spec μ Tryz.prog 9 #[.agg [.int .i64 t.kind, .int .i64 t.n, .slice A t.kids.length c].toArray, .slice OA on.length oc] [rd kTree A c t.kids, rd kBool OA oc on] fun v Δ => v = .tuple #[.bool (evalT (evOn on) t), .int .i64 0] ∧ Δ = [] := by
 refine Spec.of_body (n := 17) Tryz.func9 rfl rfl rfl fun w0 S0 O0 => ?_
 show WC _ _ _ _ _ _ [(0, .agg [.int .i64 t.kind, .int .i64 t.n, .slice A t.kids.length c].toArray), (1, .slice OA on.length oc)] [rd kTree A c t.kids, rd kBool OA oc on]
 refine WC.seq ?_
 refine WC.region ?_
 refine WL.loud (.nil) (Ld.box rfl rfl) trivial rfl ?_
 rintro _ _ ⟨b_1, rfl, rfl⟩
 refine WL.quiet (Qt.assign rfl) rfl rfl ?_
 refine WL.quiet (Qt.assign rfl) rfl rfl ?_
 refine WL.nil ?_
 refine WX.next ?_
 refine WC.seq ?_
 refine WC.seq ?_
 refine WC.region ?_
 refine WL.quiet (Qt.loadBA 0 rfl ta33 ti33 rfl rfl) rfl rfl ?_
 refine WL.quiet (Qt.move rfl) rfl rfl ?_
 refine WL.quiet (Qt.lenS Tryz.underlying26 rfl) rfl rfl ?_
 refine WL.call (.u 1 rfl (.nil)) (Cl.func cb26 rfl) (treeCheckW t ((on.length : Nat) : Int) _ _) trivial rfl ?_
 rintro _ _ ⟨e_1, rfl, rfl, hck_1⟩
 refine WL.quiet (Qt.assign rfl) rfl rfl ?_
 refine WL.nil ?_
 refine WX.next ?_
 refine WC.seq ?_
 refine WC.region ?_
 refine WL.quiet (Qt.move rfl) rfl rfl ?_
 refine WL.quiet (Qt.neq rfl rfl) rfl rfl ?_
 refine WL.nil ?_
 refine WX.next ?_
 refine WC.condD rfl (fun hc_1 => ?_) (fun hc_1 => ?_)
 ·
  exact absurd (hck_1.2 hv) hc_1
 ·
  refine WC.skip ?_
  refine WX.next ?_
  refine WC.seq ?_
  refine WC.region ?_
  refine WL.quiet (Qt.loadBA 0 rfl ta33 ti33 rfl rfl) rfl rfl ?_
  refine WL.quiet (Qt.move rfl) rfl rfl ?_
  refine WL.call (.u 1 rfl (.u 2 rfl (.nil))) (Cl.func cb31 rfl) (evalW t on _ _ _ _ (TOk.of hv.1)) trivial rfl ?_
  rintro _ _ ⟨rfl, rfl⟩
  refine WL.quiet (Qt.assign rfl) rfl rfl ?_
  refine WL.quiet (Qt.assign rfl) rfl rfl ?_
  refine WL.nil ?_
  refine WX.next ?_
  refine WC.ret ?_
  refine WX.ret2 (.nil) rfl rfl rfl ?_
  exact ⟨rfl, rfl⟩

end Go.Proofs.YtolggjmgfijjfaaGreatDoor.Sep

/- A walk, printed by gen.py out of hints. -/
namespace Go.Proofs.YtolggjmgfijjfaaGreatDoor.Sep
open Go
variable {μ : Prop}
theorem cloneBW (l : List Bool) (A : Option Addr) (c : Nat) (hlen : l.length ≤ 100000) : Spec μ Tryz.prog 34 #[.slice A l.length c] [rd kBool A c l] fun v Δ => ∃ A1 c1, v = .slice A1 l.length c1 ∧ Δ = [row kBool 4 A1 c1 l] := by
 refine Spec.of_body (n := 8) Tryz.func34 rfl rfl rfl fun w0 S0 O0 => ?_
 show WC _ _ _ _ _ _ [(0, .slice A l.length c)] [rd kBool A c l]
 refine WC.learn (Z := Unit) (Δ := fun _ => []) (φ := fun _ => l.length ≤ c ∧ c ≤ 9223372036854775807) 0 rfl (fun S w h => ⟨(), rd_bounds h, nofacts⟩) ?_
 rintro _ ⟨hb_1, hb_2⟩
 refine WC.learn (Z := Unit) 0 rfl rd_none ?_
 rintro _ hnone
 refine WC.seq ?_
 refine WC.region ?_
 refine WL.quiet (Qt.assign rfl) rfl rfl ?_
 refine WL.nil ?_
 refine WX.next ?_
 refine WC.seq ?_
 refine WC.seq ?_
 refine WC.region ?_
 refine WL.quiet (Qt.move rfl) rfl rfl ?_
 refine WL.quiet (Qt.nilEq Tryz.underlying26 rfl) rfl rfl ?_
 refine WL.nil ?_
 refine WX.next ?_
 refine WC.cond rfl (fun hc_1 => ?_) (fun hc_1 => ?_)
 ·
  refine WC.seq ?_
  refine WC.region ?_
  refine WL.quiet (Qt.assign rfl) rfl rfl ?_
  refine WL.nil ?_
  refine WX.next ?_
  refine WC.ret ?_
  refine WX.pass_ret ?_
  have hcs : l = [] := hnone (by simpa using hc_1)
  subst hcs
  refine WX.turn (.nil) (nil_row (e := kBool) (t := 4)) ?_
  rintro _ rfl
  refine WX.ret1 (.take 0 rfl (.nil)) rfl rfl ?_
  exact ⟨_, _, rfl, rfl⟩
 ·
  refine WC.skip ?_
  refine WX.next ?_
  refine WC.seq ?_
  refine WC.region ?_
  refine WL.loud (.nil) (Ld.buildEmpty Tryz.underlying26 ti4) trivial rfl ?_
  rintro _ _ ⟨b_1, rfl, rfl⟩
  refine WL.turn (.take 0 rfl (.nil)) (blk_row (e := kBool) (U := []) [] (fun F hF => nomatch hF) (fun S w h => Reps.nil _ _ _) (by simp)) ?_
  rintro _ rfl
  refine WL.quiet (Qt.move rfl) rfl rfl ?_
  refine WL.loud (.take 0 rfl (.u 0 rfl (.nil))) (Ld.appendRd (e := kBool) (xs := []) (ys := l) Tryz.underlying26 ti4 rfl (by decide) (by decide) rfl rfl (by first | omega | (simp; omega))) trivial rfl ?_
  rintro _ _ ⟨A_1, c_1, rfl, rfl⟩
  refine WL.quiet (Qt.assign rfl) rfl rfl ?_
  refine WL.nil ?_
  refine WX.next ?_
  refine WC.ret ?_
  refine WX.ret1 (.take 0 rfl (.nil)) rfl rfl ?_
  exact ⟨_, _, by rw [List.nil_append], by rw [List.nil_append]⟩

end Go.Proofs.YtolggjmgfijjfaaGreatDoor.Sep

/- A walk, printed by gen.py out of hints. -/
namespace Go.Proofs.YtolggjmgfijjfaaGreatDoor.Sep
open Go
variable {μ : Prop}
theorem cloneIW (l : List Ins) (A : Option Addr) (c : Nat) (hlen : l.length ≤ 100000) : Spec μ Tryz.prog 33 #[.slice A l.length c] [rd kIns A c l] fun v Δ => ∃ A1 c1, v = .slice A1 l.length c1 ∧ Δ = [row kIns 49 A1 c1 l] := by
 refine Spec.of_body (n := 8) Tryz.func33 rfl rfl rfl fun w0 S0 O0 => ?_
 show WC _ _ _ _ _ _ [(0, .slice A l.length c)] [rd kIns A c l]
 refine WC.learn (Z := Unit) (Δ := fun _ => []) (φ := fun _ => l.length ≤ c ∧ c ≤ 9223372036854775807) 0 rfl (fun S w h => ⟨(), rd_bounds h, nofacts⟩) ?_
 rintro _ ⟨hb_1, hb_2⟩
 refine WC.learn (Z := Unit) 0 rfl rd_none ?_
 rintro _ hnone
 refine WC.seq ?_
 refine WC.region ?_
 refine WL.quiet (Qt.assign rfl) rfl rfl ?_
 refine WL.nil ?_
 refine WX.next ?_
 refine WC.seq ?_
 refine WC.seq ?_
 refine WC.region ?_
 refine WL.quiet (Qt.move rfl) rfl rfl ?_
 refine WL.quiet (Qt.nilEq Tryz.underlying39 rfl) rfl rfl ?_
 refine WL.nil ?_
 refine WX.next ?_
 refine WC.cond rfl (fun hc_1 => ?_) (fun hc_1 => ?_)
 ·
  refine WC.seq ?_
  refine WC.region ?_
  refine WL.quiet (Qt.assign rfl) rfl rfl ?_
  refine WL.nil ?_
  refine WX.next ?_
  refine WC.ret ?_
  refine WX.pass_ret ?_
  have hcs : l = [] := hnone (by simpa using hc_1)
  subst hcs
  refine WX.turn (.nil) (nil_row (e := kIns) (t := 49)) ?_
  rintro _ rfl
  refine WX.ret1 (.take 0 rfl (.nil)) rfl rfl ?_
  exact ⟨_, _, rfl, rfl⟩
 ·
  refine WC.skip ?_
  refine WX.next ?_
  refine WC.seq ?_
  refine WC.region ?_
  refine WL.loud (.nil) (Ld.buildEmpty Tryz.underlying39 ti49) trivial rfl ?_
  rintro _ _ ⟨b_1, rfl, rfl⟩
  refine WL.turn (.take 0 rfl (.nil)) (blk_row (e := kIns) (U := []) [] (fun F hF => nomatch hF) (fun S w h => Reps.nil _ _ _) (by simp)) ?_
  rintro _ rfl
  refine WL.quiet (Qt.move rfl) rfl rfl ?_
  refine WL.loud (.take 0 rfl (.u 0 rfl (.nil))) (Ld.appendRd (e := kIns) (xs := []) (ys := l) Tryz.underlying39 ti49 rfl (by decide) (by decide) rfl rfl (by first | omega | (simp; omega))) trivial rfl ?_
  rintro _ _ ⟨A_1, c_1, rfl, rfl⟩
  refine WL.quiet (Qt.assign rfl) rfl rfl ?_
  refine WL.nil ?_
  refine WX.next ?_
  refine WC.ret ?_
  refine WX.ret1 (.take 0 rfl (.nil)) rfl rfl ?_
  exact ⟨_, _, by rw [List.nil_append], by rw [List.nil_append]⟩

end Go.Proofs.YtolggjmgfijjfaaGreatDoor.Sep

/- A walk, printed by gen.py out of hints. -/
namespace Go.Proofs.YtolggjmgfijjfaaGreatDoor.Sep
open Go
variable {μ : Prop}
theorem stateCloneW (q m e : List Bool) (QA MA EA : Option Addr) (cq cm ce : Nat) (hq : q.length ≤ 100000) (hm : m.length ≤ 100000) (he : e.length ≤ 100000) : Spec μ Tryz.prog 35 #[.agg [.slice QA q.length cq, .slice MA m.length cm, .slice EA e.length ce].toArray] [rd kBool QA cq q, rd kBool MA cm m, rd kBool EA ce e] fun v Δ => ∃ Q1 q1 M1 m1 E1 e1, v = .agg #[.slice Q1 q.length q1, .slice M1 m.length m1, .slice E1 e.length e1] ∧ Δ = [row kBool 4 Q1 q1 q, row kBool 4 M1 m1 m, row kBool 4 E1 e1 e] := by
 refine Spec.of_body (n := 13) Tryz.func35 rfl rfl rfl fun w0 S0 O0 => ?_
 show WC _ _ _ _ _ _ [(0, .agg [.slice QA q.length cq, .slice MA m.length cm, .slice EA e.length ce].toArray)] [rd kBool QA cq q, rd kBool MA cm m, rd kBool EA ce e]
 refine WC.learn (Z := Unit) (Δ := fun _ => []) (φ := fun _ => q.length ≤ cq ∧ cq ≤ 9223372036854775807) 0 rfl (fun S w h => ⟨(), rd_bounds h, nofacts⟩) ?_
 rintro _ ⟨hb_1, hb_2⟩
 refine WC.learn (Z := Unit) (Δ := fun _ => []) (φ := fun _ => m.length ≤ cm ∧ cm ≤ 9223372036854775807) 1 rfl (fun S w h => ⟨(), rd_bounds h, nofacts⟩) ?_
 rintro _ ⟨hb_3, hb_4⟩
 refine WC.learn (Z := Unit) (Δ := fun _ => []) (φ := fun _ => e.length ≤ ce ∧ ce ≤ 9223372036854775807) 2 rfl (fun S w h => ⟨(), rd_bounds h, nofacts⟩) ?_
 rintro _ ⟨hb_5, hb_6⟩
 refine WC.seq ?_
 refine WC.region ?_
 refine WL.loud (.nil) (Ld.box rfl rfl) trivial rfl ?_
 rintro _ _ ⟨b_1, rfl, rfl⟩
 refine WL.loud (.nil) (Ld.alloc ti28 rfl) trivial rfl ?_
 rintro _ _ ⟨b_2, rfl, rfl⟩
 refine WL.nil ?_
 refine WX.next ?_
 refine WC.seq ?_
 refine WC.calm (Calm.then (calm_FQ _ _)) fun hC => ?_
 refine WC.draw (Γq := [blk b_2 28 [.slice none 0 0, .slice none 0 0, .slice none 0 0], blk b_1 28 [.slice QA q.length cq, .slice MA m.length cm, .slice EA e.length ce], rd kBool QA cq q, rd kBool MA cm m, rd kBool EA ce e]) [0, 1, 2, 3, 4, 5, 6, 7, 8, 9] mixed ?_
 refine WA.named (.take 0 rfl (.take 0 rfl (.u 0 rfl (.u 1 rfl (.u 2 rfl (.nil)))))) fun sl_1 => ?_
 refine WA.tk 0 (by kernel_rfl) rfl hC (Qt.fieldAddrB tf28_0 rfl) trivial rfl sl_1 ?_
 refine WA.tk 1 (by kernel_rfl) rfl hC (Qt.loadB 1 rfl ta26 rfl rfl) trivial rfl sl_1 ?_
 refine WA.tk 3 (by kernel_rfl) rfl hC (Qt.fieldAddrB tf28_1 rfl) trivial rfl sl_1 ?_
 refine WA.tk 4 (by kernel_rfl) rfl hC (Qt.loadB 1 rfl ta26 rfl rfl) trivial rfl sl_1 ?_
 refine WA.tk 6 (by kernel_rfl) rfl hC (Qt.fieldAddrB tf28_2 rfl) trivial rfl sl_1 ?_
 refine WA.tk 7 (by kernel_rfl) rfl hC (Qt.loadB 1 rfl ta26 rfl rfl) trivial rfl sl_1 ?_
 refine WA.one 2 (by kernel_rfl) ?_
 refine WO.call rfl (.u 2 rfl (.nil)) (Cl.func cb34 rfl) (cloneBW q _ _ (by omega)) trivial rfl (by rintro _ _ ⟨A_1, c_1, rfl, rfl⟩; exact ⟨_, (.take 1 rfl (.take 1 rfl (.u 1 rfl (.u 2 rfl (.u 3 rfl (.nil))))))⟩) ?_
 rintro _ _ ⟨A_1, c_1, rfl, rfl⟩
 refine WA.one 5 (by kernel_rfl) ?_
 refine WO.call rfl (.u 4 rfl (.nil)) (Cl.func cb34 rfl) (cloneBW m _ _ (by omega)) trivial rfl (by rintro _ _ ⟨A_2, c_2, rfl, rfl⟩; exact ⟨_, (.take 2 rfl (.take 2 rfl (.u 2 rfl (.u 3 rfl (.u 4 rfl (.nil))))))⟩) ?_
 rintro _ _ ⟨A_2, c_2, rfl, rfl⟩
 refine WA.one 8 (by kernel_rfl) ?_
 refine WO.call rfl (.u 6 rfl (.nil)) (Cl.func cb34 rfl) (cloneBW e _ _ (by omega)) trivial rfl (by rintro _ _ ⟨A_3, c_3, rfl, rfl⟩; exact ⟨_, (.take 3 rfl (.take 3 rfl (.u 3 rfl (.u 4 rfl (.u 5 rfl (.nil))))))⟩) ?_
 rintro _ _ ⟨A_3, c_3, rfl, rfl⟩
 refine WA.named (.take 3 rfl (.take 3 rfl (.u 3 rfl (.u 4 rfl (.u 5 rfl (.nil)))))) fun sl_2 => ?_
 refine WA.tk 9 (by kernel_rfl) rfl hC (Qt.build tp28 ti28 rfl rfl rfl) trivial rfl sl_2 ?_
 refine WA.phase (K' := [0, 1, 2, 3, 4, 5, 6, 7, 8, 9, 10]) (Γq' := [row kBool 4 A_3 c_3 e, row kBool 4 A_2 c_2 m, row kBool 4 A_1 c_1 q, blk b_1 28 [.slice QA q.length cq, .slice MA m.length cm, .slice EA e.length ce], rd kBool QA cq q, rd kBool MA cm m, rd kBool EA ce e]) (by kernel_rfl) ?_
 refine WA.one 10 (by kernel_rfl) ?_
 refine WO.loud rfl (.take 3 rfl (.nil)) (Ld.store ti28 rfl rfl rfl rfl rfl rfl) trivial rfl (by rintro _ _ rfl; exact ⟨_, (.take 1 rfl (.take 1 rfl (.take 1 rfl (.take 1 rfl (.u 1 rfl (.u 2 rfl (.u 3 rfl (.nil))))))))⟩) ?_
 rintro _ _ rfl
 refine WA.done (by kernel_rfl) ?_
 refine WX.next ?_
 refine WC.ret ?_
 refine WX.retC 0 (.take 3 rfl (.take 2 rfl (.take 1 rfl (.nil)))) rfl rfl rfl ta28 ti28 rfl ?_
 exact ⟨A_1, c_1, A_2, c_2, A_3, c_3, rfl, rfl⟩

end Go.Proofs.YtolggjmgfijjfaaGreatDoor.Sep

/- A walk, printed by gen.py out of hints. -/
namespace Go.Proofs.YtolggjmgfijjfaaGreatDoor.Sep
open Go
variable {μ : Prop}
theorem stackNewW   : Spec μ Tryz.prog 32 #[.int .i64 64] [] fun v Δ => ∃ b, v = .tuple [.pointer (some ⟨b, 0, none⟩), .int .i64 0].toArray ∧ Δ = [blk b 129 [.slice none 0 0, .int .i64 64, .int .i64 0]] := by
 refine Spec.of_body (n := 13) Tryz.func32 rfl rfl rfl fun w0 S0 O0 => ?_
 show WC _ _ _ _ _ _ [(0, .int .i64 64)] []
 refine WC.seq ?_
 refine WC.region ?_
 refine WL.quiet (Qt.assign rfl) rfl rfl ?_
 refine WL.quiet (Qt.assign rfl) rfl rfl ?_
 refine WL.nil ?_
 refine WX.next ?_
 refine WC.seq ?_
 refine WC.seq ?_
 refine WC.region ?_
 refine WL.quiet (Qt.move rfl) rfl rfl ?_
 refine WL.quiet (Qt.lss rfl rfl) rfl rfl ?_
 refine WL.quiet (Qt.move rfl) rfl rfl ?_
 refine WL.quietG 2 false rfl 6 rfl rfl (Qt.move rfl) rfl ?_
 refine WL.quietG 2 false rfl 6 rfl rfl (Qt.gtr rfl rfl) rfl ?_
 refine WL.quiet (Qt.pickF rfl rfl) rfl rfl ?_
 refine WL.nil ?_
 refine WX.next ?_
 refine WC.no rfl ?_
 refine WC.skip ?_
 refine WX.next ?_
 refine WC.seq ?_
 refine WC.region ?_
 refine WL.quiet (Qt.move rfl) rfl rfl ?_
 refine WL.quiet (Qt.build tp129 ti129 rfl rfl rfl) rfl rfl ?_
 refine WL.loud (.nil) (Ld.box rfl rfl) trivial rfl ?_
 rintro _ _ ⟨b_1, rfl, rfl⟩
 refine WL.quiet (Qt.assign rfl) rfl rfl ?_
 refine WL.quiet (Qt.assign rfl) rfl rfl ?_
 refine WL.nil ?_
 refine WX.next ?_
 refine WC.ret ?_
 refine WX.ret2 (.take 0 rfl (.nil)) rfl rfl rfl ?_
 exact ⟨_, rfl, rfl⟩

end Go.Proofs.YtolggjmgfijjfaaGreatDoor.Sep

/- A walk, printed by gen.py out of hints. -/
namespace Go.Proofs.YtolggjmgfijjfaaGreatDoor.Sep
open Go
variable {μ : Prop}
theorem newW (code : List Ins) (inp q m e : List Bool) (C0 I0 Q0 M0 E0 : Option Addr) (c0 i0 q0 m0 e0 : Nat) (hc : code.length ≤ 100000) (hi : inp.length ≤ 100000) (hq : q.length ≤ 100000) (hm : m.length ≤ 100000) (he : e.length ≤ 100000) : Spec μ Tryz.prog 10 #[.slice C0 code.length c0, .slice I0 inp.length i0, .agg [.slice Q0 q.length q0, .slice M0 m.length m0, .slice E0 e.length e0].toArray] [rd kIns C0 c0 code, rd kBool I0 i0 inp, rd kBool Q0 q0 q, rd kBool M0 m0 m, rd kBool E0 e0 e] fun v Δ => ∃ bm bs CA cc IA ci QA cq MA cm EA ce, v = .pointer (some ⟨bm, 0, none⟩) ∧ Δ = [blk bm 96 [.slice CA code.length cc, .slice IA inp.length ci, .slice QA q.length cq, .slice MA m.length cm, .slice EA e.length ce, .int .i64 0, .bool false, .pointer (some ⟨bs, 0, none⟩), .bool false, .int .i64 0], rd kIns CA cc code, rd kBool IA ci inp, rd kBool QA cq q, rd kBool MA cm m, row kBool 4 EA ce e, blk bs 129 [.slice none 0 0, .int .i64 64, .int .i64 0], row kBool 4 none 0 []] := by
 refine Spec.of_body (n := 22) Tryz.func10 rfl rfl rfl fun w0 S0 O0 => ?_
 show WC _ _ _ _ _ _ [(0, .slice C0 code.length c0), (1, .slice I0 inp.length i0), (2, .agg [.slice Q0 q.length q0, .slice M0 m.length m0, .slice E0 e.length e0].toArray)] [rd kIns C0 c0 code, rd kBool I0 i0 inp, rd kBool Q0 q0 q, rd kBool M0 m0 m, rd kBool E0 e0 e]
 refine WC.learn (Z := Unit) (Δ := fun _ => []) (φ := fun _ => code.length ≤ c0 ∧ c0 ≤ 9223372036854775807) 0 rfl (fun S w h => ⟨(), rd_bounds h, nofacts⟩) ?_
 rintro _ ⟨hb_1, hb_2⟩
 refine WC.learn (Z := Unit) (Δ := fun _ => []) (φ := fun _ => inp.length ≤ i0 ∧ i0 ≤ 9223372036854775807) 1 rfl (fun S w h => ⟨(), rd_bounds h, nofacts⟩) ?_
 rintro _ ⟨hb_3, hb_4⟩
 refine WC.learn (Z := Unit) (Δ := fun _ => []) (φ := fun _ => q.length ≤ q0 ∧ q0 ≤ 9223372036854775807) 2 rfl (fun S w h => ⟨(), rd_bounds h, nofacts⟩) ?_
 rintro _ ⟨hb_5, hb_6⟩
 refine WC.learn (Z := Unit) (Δ := fun _ => []) (φ := fun _ => m.length ≤ m0 ∧ m0 ≤ 9223372036854775807) 3 rfl (fun S w h => ⟨(), rd_bounds h, nofacts⟩) ?_
 rintro _ ⟨hb_7, hb_8⟩
 refine WC.learn (Z := Unit) (Δ := fun _ => []) (φ := fun _ => e.length ≤ e0 ∧ e0 ≤ 9223372036854775807) 4 rfl (fun S w h => ⟨(), rd_bounds h, nofacts⟩) ?_
 rintro _ ⟨hb_9, hb_10⟩
 refine WC.seq ?_
 refine WC.region ?_
 refine WL.loud (.nil) (Ld.box rfl rfl) trivial rfl ?_
 rintro _ _ ⟨b_1, rfl, rfl⟩
 refine WL.quiet (Qt.assign rfl) rfl rfl ?_
 refine WL.nil ?_
 refine WX.next ?_
 refine WC.seq ?_
 refine WC.region ?_
 refine WL.call (.nil) (Cl.func cb32 rfl) (stackNewW) trivial rfl ?_
 rintro _ _ ⟨b_2, rfl, rfl⟩
 refine WL.quiet (Qt.move rfl) rfl rfl ?_
 refine WL.quiet (Qt.extract rfl rfl) rfl rfl ?_
 refine WL.quiet (Qt.extract rfl rfl) rfl rfl ?_
 refine WL.quiet (Qt.assign rfl) rfl rfl ?_
 refine WL.quiet (Qt.assign rfl) rfl rfl ?_
 refine WL.nil ?_
 refine WX.next ?_
 refine WC.seq ?_
 refine WC.calm (Calm.then (calm_FQ _ _)) fun hC => ?_
 refine WC.draw (Γq := [blk b_2 129 [.slice none 0 0, .int .i64 64, .int .i64 0], blk b_1 28 [.slice Q0 q.length q0, .slice M0 m.length m0, .slice E0 e.length e0], rd kIns C0 c0 code, rd kBool I0 i0 inp, rd kBool Q0 q0 q, rd kBool M0 m0 m, rd kBool E0 e0 e]) [0, 1, 2, 3, 4, 5, 6, 7, 8] mixed ?_
 refine WA.named (.take 0 rfl (.take 0 rfl (.u 0 rfl (.u 1 rfl (.u 2 rfl (.u 3 rfl (.u 4 rfl (.nil)))))))) fun sl_1 => ?_
 refine WA.tk 0 (by kernel_rfl) rfl hC (Qt.move rfl) trivial rfl sl_1 ?_
 refine WA.tk 2 (by kernel_rfl) rfl hC (Qt.move rfl) trivial rfl sl_1 ?_
 refine WA.tk 4 (by kernel_rfl) rfl hC (Qt.loadBA 1 rfl ta28 ti28 rfl rfl) trivial rfl sl_1 ?_
 refine WA.tk 6 (by kernel_rfl) rfl hC (Qt.move rfl) trivial rfl sl_1 ?_
 refine WA.one 1 (by kernel_rfl) ?_
 refine WO.call rfl (.u 2 rfl (.nil)) (Cl.func cb33 rfl) (cloneIW code _ _ (by omega)) trivial rfl (by rintro _ _ ⟨A_1, c_1, rfl, rfl⟩; exact ⟨_, (.take 1 rfl (.take 1 rfl (.u 1 rfl (.u 2 rfl (.u 3 rfl (.u 4 rfl (.u 5 rfl (.nil))))))))⟩) ?_
 rintro _ _ ⟨A_1, c_1, rfl, rfl⟩
 refine WA.one 3 (by kernel_rfl) ?_
 refine WO.call rfl (.u 4 rfl (.nil)) (Cl.func cb34 rfl) (cloneBW inp _ _ (by omega)) trivial rfl (by rintro _ _ ⟨A_2, c_2, rfl, rfl⟩; exact ⟨_, (.take 2 rfl (.take 2 rfl (.u 2 rfl (.u 3 rfl (.u 4 rfl (.u 5 rfl (.u 6 rfl (.nil))))))))⟩) ?_
 rintro _ _ ⟨A_2, c_2, rfl, rfl⟩
 refine WA.one 5 (by kernel_rfl) ?_
 refine WO.call rfl (.u 6 rfl (.u 7 rfl (.u 8 rfl (.nil)))) (Cl.func cb35 rfl) (stateCloneW q m e _ _ _ _ _ _ hq hm he) trivial rfl (by rintro _ _ ⟨A_3, c_3, A_4, c_4, A_5, c_5, rfl, rfl⟩; exact ⟨_, (.take 5 rfl (.take 5 rfl (.u 5 rfl (.u 6 rfl (.u 7 rfl (.u 8 rfl (.u 9 rfl (.nil))))))))⟩) ?_
 rintro _ _ ⟨A_3, c_3, A_4, c_4, A_5, c_5, rfl, rfl⟩
 refine WA.named (.take 5 rfl (.take 5 rfl (.u 5 rfl (.u 6 rfl (.u 7 rfl (.u 8 rfl (.u 9 rfl (.nil)))))))) fun sl_2 => ?_
 refine WA.tk 7 (by kernel_rfl) rfl hC (Qt.build tp96 ti96 rfl rfl rfl) trivial rfl sl_2 ?_
 refine WA.one 8 (by kernel_rfl) ?_
 refine WO.loud rfl (.nil) (Ld.box rfl rfl) trivial rfl (by rintro _ _ ⟨b_3, rfl, rfl⟩; exact ⟨_, (.take 6 rfl (.take 6 rfl (.u 6 rfl (.u 7 rfl (.u 8 rfl (.u 9 rfl (.u 10 rfl (.nil))))))))⟩) ?_
 rintro _ _ ⟨b_3, rfl, rfl⟩
 refine WA.phase (K' := [0, 1, 2, 3, 4, 5, 6, 7, 8, 9]) (Γq' := [blk b_3 96 [.slice A_1 code.length c_1, .slice A_2 inp.length c_2, .slice A_3 q.length c_3, .slice A_4 m.length c_4, .slice A_5 e.length c_5, .int .i64 0, .bool false, .pointer (some ⟨b_2, 0, none⟩), .bool false, .int .i64 0], row kBool 4 A_3 c_3 q, row kBool 4 A_4 c_4 m, row kBool 4 A_5 c_5 e, row kBool 4 A_2 c_2 inp, row kIns 49 A_1 c_1 code, blk b_2 129 [.slice none 0 0, .int .i64 64, .int .i64 0], blk b_1 28 [.slice Q0 q.length q0, .slice M0 m.length m0, .slice E0 e.length e0], rd kIns C0 c0 code, rd kBool I0 i0 inp, rd kBool Q0 q0 q, rd kBool M0 m0 m, rd kBool E0 e0 e]) (by kernel_rfl) ?_
 refine WA.named (.take 0 rfl (.take 0 rfl (.take 0 rfl (.take 0 rfl (.take 0 rfl (.take 0 rfl (.take 0 rfl (.take 0 rfl (.u 0 rfl (.u 1 rfl (.u 2 rfl (.u 3 rfl (.u 4 rfl (.nil)))))))))))))) fun sl_3 => ?_
 refine WA.tk 9 (by kernel_rfl) rfl hC (Qt.assign rfl) trivial rfl sl_3 ?_
 refine WA.done (by kernel_rfl) ?_
 refine WX.next ?_
 refine WC.ret ?_
 refine WX.turn (.take 5 rfl (.nil)) (freeze_row) ?_
 rintro _ rfl
 refine WX.turn (.take 5 rfl (.nil)) (freeze_row) ?_
 rintro _ rfl
 refine WX.turn (.take 3 rfl (.nil)) (freeze_row) ?_
 rintro _ rfl
 refine WX.turn (.take 4 rfl (.nil)) (freeze_row) ?_
 rintro _ rfl
 refine WX.turn (.nil) (nil_row (e := kBool) (t := 4)) ?_
 rintro _ rfl
 refine WX.ret1 (.take 5 rfl (.u 4 rfl (.u 3 rfl (.u 2 rfl (.u 1 rfl (.take 5 rfl (.take 5 rfl (.take 0 rfl (.nil))))))))) rfl rfl ?_
 exact ⟨b_3, b_2, A_1, c_1, A_2, c_2, A_3, c_3, A_4, c_4, A_5, c_5, rfl, rfl⟩

end Go.Proofs.YtolggjmgfijjfaaGreatDoor.Sep

/- A walk, printed by gen.py out of hints. -/
namespace Go.Proofs.YtolggjmgfijjfaaGreatDoor.Sep
open Go
variable {μ : Prop}
theorem imageIsW (l : List Bool) (A : Option Addr) (c : Nat) (n : Int)  : Spec μ Tryz.prog 114 #[.slice A l.length c, .int .i64 n] [rd kBool A c l] fun v Δ => v = .bool (decide ((n : Int) ≥ 0 ∧ (n : Int) < ((l.length : Nat) : Int))) ∧ Δ = [] := by
 refine Spec.of_body (n := 13) Tryz.func114 rfl rfl rfl fun w0 S0 O0 => ?_
 show WC _ _ _ _ _ _ [(0, .slice A l.length c), (1, .int .i64 n)] [rd kBool A c l]
 refine WC.seq ?_
 refine WC.region ?_
 refine WL.quiet (Qt.assign rfl) rfl rfl ?_
 refine WL.nil ?_
 refine WX.next ?_
 refine WC.cut (fun _ : Unit => [(4, .bool (decide (((n : Int) ≥ 0) ∧ ((n : Int) < ((l.length : Nat) : Int)))))]) (fun _ => [rd kBool A c l]) (fun _ => True) ?_ ?_
 ·
  refine WC.region ?_
  refine WL.quiet (Qt.move rfl) rfl rfl ?_
  refine WL.quiet (Qt.geq rfl rfl) rfl rfl ?_
  refine WL.quiet (Qt.move rfl) rfl rfl ?_
  refine WL.splitD 7 rfl rfl (fun hg_1 => ?_) (fun hg_1 => ?_)
  ·
   refine WL.quietG 2 true rfl 7 rfl rfl (Qt.move rfl) rfl ?_
   refine WL.quietG 2 true rfl 7 rfl rfl (Qt.move rfl) rfl ?_
   refine WL.quietG 2 true rfl 7 rfl rfl (Qt.lenS Tryz.underlying26 rfl) rfl ?_
   refine WL.quietG 2 true rfl 7 rfl rfl (Qt.lss rfl rfl) rfl ?_
   refine WL.quiet (Qt.pickT rfl rfl) rfl rfl ?_
   refine WL.quiet (Qt.assign rfl) rfl rfl ?_
   refine WL.nil ?_
   exact WX.cut () trivial ⟨(by rw [show decide (((n : Int) ≥ 0) ∧ ((n : Int) < ((l.length : Nat) : Int))) = (decide ((n : Int) < ((l.length : Nat) : Int))) from by first | (simp [hg_1]; done) | exact decide_eq_decide.2 (by omega) | exact decide_eq_true (by omega) | exact decide_eq_false (by omega) | (simp [hg_1] <;> omega)]; rfl), trivial⟩ (.u 0 rfl (.nil))
  ·
   refine WL.skipG 2 true false rfl 7 rfl rfl rfl rfl ?_
   refine WL.skipG 2 true false rfl 7 rfl rfl rfl rfl ?_
   refine WL.skipG 2 true false rfl 7 rfl rfl rfl rfl ?_
   refine WL.skipG 2 true false rfl 7 rfl rfl rfl rfl ?_
   refine WL.quiet (Qt.pickF rfl rfl) rfl rfl ?_
   refine WL.quiet (Qt.assign rfl) rfl rfl ?_
   refine WL.nil ?_
   exact WX.cut () trivial ⟨(by rw [show decide (((n : Int) ≥ 0) ∧ ((n : Int) < ((l.length : Nat) : Int))) = false from by first | (simp [hg_1]; done) | exact decide_eq_decide.2 (by omega) | exact decide_eq_true (by omega) | exact decide_eq_false (by omega) | (simp [hg_1] <;> omega)]; rfl), trivial⟩ (.u 0 rfl (.nil))
 ·
  intro _ _
  show WC _ _ _ _ _ _ [(4, .bool (decide (((n : Int) ≥ 0) ∧ ((n : Int) < ((l.length : Nat) : Int)))))] [rd kBool A c l]
  refine WC.ret ?_
  refine WX.ret1 (.nil) rfl rfl ?_
  exact ⟨rfl, rfl⟩

end Go.Proofs.YtolggjmgfijjfaaGreatDoor.Sep

/- A walk, printed by gen.py out of hints. -/
namespace Go.Proofs.YtolggjmgfijjfaaGreatDoor.Sep
open Go
variable {μ : Prop}
theorem imageGetW (l : List Bool) (A : Option Addr) (c : Nat) (n : Int)  : Spec μ Tryz.prog 85 #[.slice A l.length c, .int .i64 n] [rd kBool A c l] fun v Δ => v = .tuple [.bool (getB l n).1, .int .i64 (getB l n).2].toArray ∧ Δ = [] := by
 refine Spec.of_body (n := 14) Tryz.func85 rfl rfl rfl fun w0 S0 O0 => ?_
 show WC _ _ _ _ _ _ [(0, .slice A l.length c), (1, .int .i64 n)] [rd kBool A c l]
 refine WC.learn (Z := Unit) (Δ := fun _ => []) (φ := fun _ => l.length ≤ c ∧ c ≤ 9223372036854775807) 0 rfl (fun S w h => ⟨(), rd_bounds h, nofacts⟩) ?_
 rintro _ ⟨hb_1, hb_2⟩
 refine WC.seq ?_
 refine WC.region ?_
 refine WL.quiet (Qt.assign rfl) rfl rfl ?_
 refine WL.quiet (Qt.assign rfl) rfl rfl ?_
 refine WL.nil ?_
 refine WX.next ?_
 refine WC.seq ?_
 refine WC.seq ?_
 refine WC.region ?_
 refine WL.quiet (Qt.move rfl) rfl rfl ?_
 refine WL.quiet (Qt.move rfl) rfl rfl ?_
 refine WL.call (.u 0 rfl (.nil)) (Cl.func cb114 rfl) (imageIsW l _ _ n) trivial rfl ?_
 rintro _ _ ⟨rfl, rfl⟩
 refine WL.quiet (Qt.notD rfl) rfl rfl ?_
 refine WL.nil ?_
 refine WX.next ?_
 refine WC.condD rfl (fun hc_1 => ?_) (fun hc_1 => ?_)
 ·
  refine WC.seq ?_
  refine WC.region ?_
  refine WL.quiet (Qt.assign rfl) rfl rfl ?_
  refine WL.quiet (Qt.assign rfl) rfl rfl ?_
  refine WL.nil ?_
  refine WX.next ?_
  refine WC.ret ?_
  refine WX.pass_ret ?_
  refine WX.ret2 (.nil) rfl rfl rfl ?_
  exact ⟨by rw [getB_bad (by omega)], rfl⟩
 ·
  refine WC.skip ?_
  refine WX.next ?_
  refine WC.seq ?_
  obtain ⟨j, hj⟩ := Int.eq_ofNat_of_zero_le (show 0 ≤ n from by omega)
  rw [hj]
  refine WC.region ?_
  refine WL.quiet (Qt.move rfl) rfl rfl ?_
  refine WL.quiet (Qt.move rfl) rfl rfl ?_
  have hj_1 : j < l.length := by omega
  refine WL.learn 0 rfl (rd_at j hj_1 (vBool _)) ?_
  rintro ⟨p_1, ⟨⟩⟩ hA_1
  refine WL.quiet (Qt.indexAddrE j hA_1 Tryz.underlying26 ti4 rfl rfl (by first | assumption | omega)) rfl rfl ?_
  refine WL.quiet (Qt.loadC (p := p_1.add (j * 1)) (o := 0) 0 rfl ta4 rfl rfl) rfl rfl ?_
  refine WL.quiet (Qt.assign rfl) rfl rfl ?_
  refine WL.quiet (Qt.assign rfl) rfl rfl ?_
  refine WL.nil ?_
  refine WX.next ?_
  refine WC.ret ?_
  refine WX.ret2 (.nil) rfl rfl rfl ?_
  exact ⟨by rw [getB_at (by omega)], rfl⟩

end Go.Proofs.YtolggjmgfijjfaaGreatDoor.Sep

/- A walk, printed by gen.py out of hints. -/
namespace Go.Proofs.YtolggjmgfijjfaaGreatDoor.Sep
open Go
variable {μ : Prop}
theorem stateReadW (inp q m : List Bool) (IA QA MA EA : Option Addr) (ci cq cm ne ce : Nat) (sp n : Int)  : Spec μ Tryz.prog 84 #[.slice IA inp.length ci, .agg [.slice QA q.length cq, .slice MA m.length cm, .slice EA ne ce].toArray, .agg [.int .i64 sp, .int .i64 n].toArray] [rd kBool IA ci inp, rd kBool QA cq q, rd kBool MA cm m] fun v Δ => v = .tuple [.bool ((Bits.mk inp q m).rd sp n).1, .int .i64 ((Bits.mk inp q m).rd sp n).2].toArray ∧ Δ = [] := by
 refine Spec.of_body (n := 32) Tryz.func84 rfl rfl rfl fun w0 S0 O0 => ?_
 show WC _ _ _ _ _ _ [(0, .slice IA inp.length ci), (1, .agg [.slice QA q.length cq, .slice MA m.length cm, .slice EA ne ce].toArray), (2, .agg [.int .i64 sp, .int .i64 n].toArray)] [rd kBool IA ci inp, rd kBool QA cq q, rd kBool MA cm m]
 refine WC.seq ?_
 refine WC.region ?_
 refine WL.loud (.nil) (Ld.box rfl rfl) trivial rfl ?_
 rintro _ _ ⟨b_1, rfl, rfl⟩
 refine WL.loud (.nil) (Ld.box rfl rfl) trivial rfl ?_
 rintro _ _ ⟨b_2, rfl, rfl⟩
 refine WL.quiet (Qt.assign rfl) rfl rfl ?_
 refine WL.quiet (Qt.assign rfl) rfl rfl ?_
 refine WL.nil ?_
 refine WX.next ?_
 refine WC.seq ?_
 refine WC.region ?_
 refine WL.quiet (Qt.move rfl) rfl rfl ?_
 refine WL.quiet (Qt.fieldAddrB tf28_0 rfl) rfl rfl ?_
 refine WL.quiet (Qt.loadB 1 rfl ta26 rfl rfl) rfl rfl ?_
 refine WL.quiet (Qt.fieldAddrB tf28_1 rfl) rfl rfl ?_
 refine WL.quiet (Qt.loadB 1 rfl ta26 rfl rfl) rfl rfl ?_
 refine WL.quiet (Qt.buildArr Tryz.underlying178 ti26 ti178 rfl rfl rfl) rfl rfl ?_
 refine WL.loud (.nil) (Ld.alloc ti178 rfl) trivial rfl ?_
 rintro _ _ ⟨b_3, rfl, rfl⟩
 refine WL.loud (.take 0 rfl (.nil)) (Ld.store ti178 rfl rfl rfl rfl rfl rfl) trivial rfl ?_
 rintro _ _ rfl
 refine WL.nil ?_
 refine WX.next ?_
 refine WC.seq ?_
 refine WC.cut (fun _ : Unit => [(5, .pointer (some ⟨b_2, 0, none⟩)), (6, .bool false), (7, .int .i64 0), (8, .pointer (some ⟨b_3, 0, none⟩)), (22, .bool (decide (((sp : Int) < 0) ∨ ((sp : Int) ≥ 3))))]) (fun _ => [blk b_3 178 [.slice IA inp.length ci, .slice QA q.length cq, .slice MA m.length cm], blk b_2 47 [.int .i64 sp, .int .i64 n], blk b_1 28 [.slice QA q.length cq, .slice MA m.length cm, .slice EA ne ce], rd kBool IA ci inp, rd kBool QA cq q, rd kBool MA cm m]) (fun _ => True) ?_ ?_
 ·
  refine WC.region ?_
  refine WL.quiet (Qt.fieldAddrB tf47_0 rfl) rfl rfl ?_
  refine WL.quiet (Qt.loadB 1 rfl ta3 rfl rfl) rfl rfl ?_
  refine WL.quiet (Qt.lss rfl rfl) rfl rfl ?_
  refine WL.quiet (Qt.move rfl) rfl rfl ?_
  refine WL.splitD 18 rfl rfl (fun hg_1 => ?_) (fun hg_1 => ?_)
  ·
   refine WL.skipG 3 false true rfl 18 rfl rfl rfl rfl ?_
   refine WL.skipG 3 false true rfl 18 rfl rfl rfl rfl ?_
   refine WL.skipG 3 false true rfl 18 rfl rfl rfl rfl ?_
   refine WL.quiet (Qt.pickT rfl rfl) rfl rfl ?_
   refine WL.nil ?_
   exact WX.cut () trivial ⟨rfl, rfl, rfl, rfl, (by rw [show decide (((sp : Int) < 0) ∨ ((sp : Int) ≥ 3)) = true from by first | (simp [hg_1]; done) | exact decide_eq_decide.2 (by omega) | exact decide_eq_true (by omega) | exact decide_eq_false (by omega) | (simp [hg_1] <;> omega)]; rfl), trivial⟩ (.take 0 rfl (.take 0 rfl (.take 0 rfl (.u 0 rfl (.u 1 rfl (.u 2 rfl (.nil)))))))
  ·
   refine WL.quietG 3 false rfl 18 rfl rfl (Qt.fieldAddrB tf47_0 rfl) rfl ?_
   refine WL.quietG 3 false rfl 18 rfl rfl (Qt.loadB 1 rfl ta3 rfl rfl) rfl ?_
   refine WL.quietG 3 false rfl 18 rfl rfl (Qt.geq rfl rfl) rfl ?_
   refine WL.quiet (Qt.pickF rfl rfl) rfl rfl ?_
   refine WL.nil ?_
   exact WX.cut () trivial ⟨rfl, rfl, rfl, rfl, (by rw [show decide (((sp : Int) < 0) ∨ ((sp : Int) ≥ 3)) = (decide ((sp : Int) ≥ 3)) from by first | (simp [hg_1]; done) | exact decide_eq_decide.2 (by omega) | exact decide_eq_true (by omega) | exact decide_eq_false (by omega) | (simp [hg_1] <;> omega)]; rfl), trivial⟩ (.take 0 rfl (.take 0 rfl (.take 0 rfl (.u 0 rfl (.u 1 rfl (.u 2 rfl (.nil)))))))
 ·
  intro _ _
  show WC _ _ _ _ _ _ [(5, .pointer (some ⟨b_2, 0, none⟩)), (6, .bool false), (7, .int .i64 0), (8, .pointer (some ⟨b_3, 0, none⟩)), (22, .bool (decide (((sp : Int) < 0) ∨ ((sp : Int) ≥ 3))))] [blk b_3 178 [.slice IA inp.length ci, .slice QA q.length cq, .slice MA m.length cm], blk b_2 47 [.int .i64 sp, .int .i64 n], blk b_1 28 [.slice QA q.length cq, .slice MA m.length cm, .slice EA ne ce], rd kBool IA ci inp, rd kBool QA cq q, rd kBool MA cm m]
  refine WC.condD rfl (fun hc_1 => ?_) (fun hc_1 => ?_)
  ·
   refine WC.seq ?_
   refine WC.region ?_
   refine WL.quiet (Qt.assign rfl) rfl rfl ?_
   refine WL.quiet (Qt.assign rfl) rfl rfl ?_
   refine WL.nil ?_
   refine WX.next ?_
   refine WC.ret ?_
   refine WX.pass_ret ?_
   refine WX.ret2 (.nil) rfl rfl rfl ?_
   exact ⟨by rw [rd_bad _ (by omega)], rfl⟩
  ·
   refine WC.skip ?_
   refine WX.next ?_
   rcases (show sp = 0 ∨ sp = 1 ∨ sp = 2 from by omega) with rfl | rfl | rfl
   ·
    refine WC.seq ?_
    refine WC.calm (Calm.then (calm_FQ _ _)) fun hC => ?_
    refine WC.draw (Γq := [blk b_3 178 [.slice IA inp.length ci, .slice QA q.length cq, .slice MA m.length cm], blk b_2 47 [.int .i64 0, .int .i64 n], blk b_1 28 [.slice QA q.length cq, .slice MA m.length cm, .slice EA ne ce], rd kBool IA ci inp, rd kBool QA cq q, rd kBool MA cm m]) [0, 1, 2, 3, 4, 5, 6, 7, 8] mixed ?_
    refine WA.named (.take 0 rfl (.take 0 rfl (.take 0 rfl (.u 0 rfl (.u 1 rfl (.u 2 rfl (.nil))))))) fun sl_1 => ?_
    refine WA.tk 0 (by kernel_rfl) rfl hC (Qt.fieldAddrB tf47_0 rfl) trivial rfl sl_1 ?_
    refine WA.tk 1 (by kernel_rfl) rfl hC (Qt.loadB 1 rfl ta3 rfl rfl) trivial rfl sl_1 ?_
    refine WA.tk 2 (by kernel_rfl) rfl hC (Qt.indexArrB 0 Tryz.underlying178 ti26 rfl rfl (by decide)) trivial rfl sl_1 ?_
    refine WA.tk 3 (by kernel_rfl) rfl hC (Qt.loadB 0 rfl ta26 rfl rfl) trivial rfl sl_1 ?_
    refine WA.tk 4 (by kernel_rfl) rfl hC (Qt.fieldAddrB tf47_1 rfl) trivial rfl sl_1 ?_
    refine WA.tk 5 (by kernel_rfl) rfl hC (Qt.loadB 1 rfl ta3 rfl rfl) trivial rfl sl_1 ?_
    refine WA.one 6 (by kernel_rfl) ?_
    refine WO.call rfl (.u 3 rfl (.nil)) (Cl.func cb85 rfl) (imageGetW inp _ _ n) trivial rfl (by rintro _ _ ⟨rfl, rfl⟩; exact ⟨_, (.take 0 rfl (.take 0 rfl (.take 0 rfl (.u 0 rfl (.u 1 rfl (.u 2 rfl (.nil)))))))⟩) ?_
    rintro _ _ ⟨rfl, rfl⟩
    refine WA.tk 7 (by kernel_rfl) rfl hC (Qt.extract rfl rfl) trivial rfl sl_1 ?_
    refine WA.tk 8 (by kernel_rfl) rfl hC (Qt.extract rfl rfl) trivial rfl sl_1 ?_
    refine WA.phase (K' := [0, 1, 2, 3, 4, 5, 6, 7, 8, 9]) (Γq' := [blk b_3 178 [.slice IA inp.length ci, .slice QA q.length cq, .slice MA m.length cm], blk b_2 47 [.int .i64 0, .int .i64 n], blk b_1 28 [.slice QA q.length cq, .slice MA m.length cm, .slice EA ne ce], rd kBool IA ci inp, rd kBool QA cq q, rd kBool MA cm m]) (by kernel_rfl) ?_
    refine WA.tk 9 (by kernel_rfl) rfl hC (Qt.assign rfl) trivial rfl sl_1 ?_
    refine WA.phase (K' := [0, 1, 2, 3, 4, 5, 6, 7, 8, 9, 10]) (Γq' := [blk b_3 178 [.slice IA inp.length ci, .slice QA q.length cq, .slice MA m.length cm], blk b_2 47 [.int .i64 0, .int .i64 n], blk b_1 28 [.slice QA q.length cq, .slice MA m.length cm, .slice EA ne ce], rd kBool IA ci inp, rd kBool QA cq q, rd kBool MA cm m]) (by kernel_rfl) ?_
    refine WA.tk 10 (by kernel_rfl) rfl hC (Qt.assign rfl) trivial rfl sl_1 ?_
    refine WA.done (by kernel_rfl) ?_
    refine WX.next ?_
    refine WC.ret ?_
    refine WX.ret2 (.nil) rfl rfl rfl ?_
    exact ⟨rfl, rfl⟩
   ·
    refine WC.seq ?_
    refine WC.calm (Calm.then (calm_FQ _ _)) fun hC => ?_
    refine WC.draw (Γq := [blk b_3 178 [.slice IA inp.length ci, .slice QA q.length cq, .slice MA m.length cm], blk b_2 47 [.int .i64 1, .int .i64 n], blk b_1 28 [.slice QA q.length cq, .slice MA m.length cm, .slice EA ne ce], rd kBool IA ci inp, rd kBool QA cq q, rd kBool MA cm m]) [0, 1, 2, 3, 4, 5, 6, 7, 8] mixed ?_
    refine WA.named (.take 0 rfl (.take 0 rfl (.take 0 rfl (.u 0 rfl (.u 1 rfl (.u 2 rfl (.nil))))))) fun sl_2 => ?_
    refine WA.tk 0 (by kernel_rfl) rfl hC (Qt.fieldAddrB tf47_0 rfl) trivial rfl sl_2 ?_
    refine WA.tk 1 (by kernel_rfl) rfl hC (Qt.loadB 1 rfl ta3 rfl rfl) trivial rfl sl_2 ?_
    refine WA.tk 2 (by kernel_rfl) rfl hC (Qt.indexArrB 1 Tryz.underlying178 ti26 rfl rfl (by decide)) trivial rfl sl_2 ?_
    refine WA.tk 3 (by kernel_rfl) rfl hC (Qt.loadB 0 rfl ta26 rfl rfl) trivial rfl sl_2 ?_
    refine WA.tk 4 (by kernel_rfl) rfl hC (Qt.fieldAddrB tf47_1 rfl) trivial rfl sl_2 ?_
    refine WA.tk 5 (by kernel_rfl) rfl hC (Qt.loadB 1 rfl ta3 rfl rfl) trivial rfl sl_2 ?_
    refine WA.one 6 (by kernel_rfl) ?_
    refine WO.call rfl (.u 4 rfl (.nil)) (Cl.func cb85 rfl) (imageGetW q _ _ n) trivial rfl (by rintro _ _ ⟨rfl, rfl⟩; exact ⟨_, (.take 0 rfl (.take 0 rfl (.take 0 rfl (.u 0 rfl (.u 1 rfl (.u 2 rfl (.nil)))))))⟩) ?_
    rintro _ _ ⟨rfl, rfl⟩
    refine WA.tk 7 (by kernel_rfl) rfl hC (Qt.extract rfl rfl) trivial rfl sl_2 ?_
    refine WA.tk 8 (by kernel_rfl) rfl hC (Qt.extract rfl rfl) trivial rfl sl_2 ?_
    refine WA.phase (K' := [0, 1, 2, 3, 4, 5, 6, 7, 8, 9]) (Γq' := [blk b_3 178 [.slice IA inp.length ci, .slice QA q.length cq, .slice MA m.length cm], blk b_2 47 [.int .i64 1, .int .i64 n], blk b_1 28 [.slice QA q.length cq, .slice MA m.length cm, .slice EA ne ce], rd kBool IA ci inp, rd kBool QA cq q, rd kBool MA cm m]) (by kernel_rfl) ?_
    refine WA.tk 9 (by kernel_rfl) rfl hC (Qt.assign rfl) trivial rfl sl_2 ?_
    refine WA.phase (K' := [0, 1, 2, 3, 4, 5, 6, 7, 8, 9, 10]) (Γq' := [blk b_3 178 [.slice IA inp.length ci, .slice QA q.length cq, .slice MA m.length cm], blk b_2 47 [.int .i64 1, .int .i64 n], blk b_1 28 [.slice QA q.length cq, .slice MA m.length cm, .slice EA ne ce], rd kBool IA ci inp, rd kBool QA cq q, rd kBool MA cm m]) (by kernel_rfl) ?_
    refine WA.tk 10 (by kernel_rfl) rfl hC (Qt.assign rfl) trivial rfl sl_2 ?_
    refine WA.done (by kernel_rfl) ?_
    refine WX.next ?_
    refine WC.ret ?_
    refine WX.ret2 (.nil) rfl rfl rfl ?_
    exact ⟨rfl, rfl⟩
   ·
    refine WC.seq ?_
    refine WC.calm (Calm.then (calm_FQ _ _)) fun hC => ?_
    refine WC.draw (Γq := [blk b_3 178 [.slice IA inp.length ci, .slice QA q.length cq, .slice MA m.length cm], blk b_2 47 [.int .i64 2, .int .i64 n], blk b_1 28 [.slice QA q.length cq, .slice MA m.length cm, .slice EA ne ce], rd kBool IA ci inp, rd kBool QA cq q, rd kBool MA cm m]) [0, 1, 2, 3, 4, 5, 6, 7, 8] mixed ?_
    refine WA.named (.take 0 rfl (.take 0 rfl (.take 0 rfl (.u 0 rfl (.u 1 rfl (.u 2 rfl (.nil))))))) fun sl_3 => ?_
    refine WA.tk 0 (by kernel_rfl) rfl hC (Qt.fieldAddrB tf47_0 rfl) trivial rfl sl_3 ?_
    refine WA.tk 1 (by kernel_rfl) rfl hC (Qt.loadB 1 rfl ta3 rfl rfl) trivial rfl sl_3 ?_
    refine WA.tk 2 (by kernel_rfl) rfl hC (Qt.indexArrB 2 Tryz.underlying178 ti26 rfl rfl (by decide)) trivial rfl sl_3 ?_
    refine WA.tk 3 (by kernel_rfl) rfl hC (Qt.loadB 0 rfl ta26 rfl rfl) trivial rfl sl_3 ?_
    refine WA.tk 4 (by kernel_rfl) rfl hC (Qt.fieldAddrB tf47_1 rfl) trivial rfl sl_3 ?_
    refine WA.tk 5 (by kernel_rfl) rfl hC (Qt.loadB 1 rfl ta3 rfl rfl) trivial rfl sl_3 ?_
    refine WA.one 6 (by kernel_rfl) ?_
    refine WO.call rfl (.u 5 rfl (.nil)) (Cl.func cb85 rfl) (imageGetW m _ _ n) trivial rfl (by rintro _ _ ⟨rfl, rfl⟩; exact ⟨_, (.take 0 rfl (.take 0 rfl (.take 0 rfl (.u 0 rfl (.u 1 rfl (.u 2 rfl (.nil)))))))⟩) ?_
    rintro _ _ ⟨rfl, rfl⟩
    refine WA.tk 7 (by kernel_rfl) rfl hC (Qt.extract rfl rfl) trivial rfl sl_3 ?_
    refine WA.tk 8 (by kernel_rfl) rfl hC (Qt.extract rfl rfl) trivial rfl sl_3 ?_
    refine WA.phase (K' := [0, 1, 2, 3, 4, 5, 6, 7, 8, 9]) (Γq' := [blk b_3 178 [.slice IA inp.length ci, .slice QA q.length cq, .slice MA m.length cm], blk b_2 47 [.int .i64 2, .int .i64 n], blk b_1 28 [.slice QA q.length cq, .slice MA m.length cm, .slice EA ne ce], rd kBool IA ci inp, rd kBool QA cq q, rd kBool MA cm m]) (by kernel_rfl) ?_
    refine WA.tk 9 (by kernel_rfl) rfl hC (Qt.assign rfl) trivial rfl sl_3 ?_
    refine WA.phase (K' := [0, 1, 2, 3, 4, 5, 6, 7, 8, 9, 10]) (Γq' := [blk b_3 178 [.slice IA inp.length ci, .slice QA q.length cq, .slice MA m.length cm], blk b_2 47 [.int .i64 2, .int .i64 n], blk b_1 28 [.slice QA q.length cq, .slice MA m.length cm, .slice EA ne ce], rd kBool IA ci inp, rd kBool QA cq q, rd kBool MA cm m]) (by kernel_rfl) ?_
    refine WA.tk 10 (by kernel_rfl) rfl hC (Qt.assign rfl) trivial rfl sl_3 ?_
    refine WA.done (by kernel_rfl) ?_
    refine WX.next ?_
    refine WC.ret ?_
    refine WX.ret2 (.nil) rfl rfl rfl ?_
    exact ⟨rfl, rfl⟩

end Go.Proofs.YtolggjmgfijjfaaGreatDoor.Sep

/- A walk, printed by gen.py out of hints. -/
namespace Go.Proofs.YtolggjmgfijjfaaGreatDoor.Sep
open Go
variable {μ : Prop}
theorem logicW (code : List Ins) (inp q m : List Bool) (CA IA QA MA EA : Option Addr) (cc ci cq cm ce bm bs at_ ne : Nat) (a : Bool) (x : Ins) (hop0 : 0 ≤ x.op ∧ x.op ≤ 5) (hr : ((Bits.mk inp q m).rd x.sp x.n).2 = 0) : Spec μ Tryz.prog 56 #[.pointer (some ⟨bm, 0, none⟩), .agg [.int .i64 x.op, .int .i64 x.sp, .int .i64 x.n, .int .i64 x.arg].toArray] [blk bm 96 [.slice CA code.length cc, .slice IA inp.length ci, .slice QA q.length cq, .slice MA m.length cm, .slice EA ne ce, .int .i64 ((at_ : Nat) : Int), .bool a, .pointer (some ⟨bs, 0, none⟩), .bool false, .int .i64 0], rd kBool IA ci inp, rd kBool QA cq q, rd kBool MA cm m] fun v Δ => v = .int .i64 0 ∧ Δ = [blk bm 96 [.slice CA code.length cc, .slice IA inp.length ci, .slice QA q.length cq, .slice MA m.length cm, .slice EA ne ce, .int .i64 ((at_ : Nat) : Int), .bool (logicA x.op a (logicV x.op ((Bits.mk inp q m).rd x.sp x.n).1)), .pointer (some ⟨bs, 0, none⟩), .bool false, .int .i64 0]] := by
 refine Spec.of_body (n := 64) Tryz.func56 rfl rfl rfl fun w0 S0 O0 => ?_
 show WC _ _ _ _ _ _ [(0, .pointer (some ⟨bm, 0, none⟩)), (1, .agg [.int .i64 x.op, .int .i64 x.sp, .int .i64 x.n, .int .i64 x.arg].toArray)] [blk bm 96 [.slice CA code.length cc, .slice IA inp.length ci, .slice QA q.length cq, .slice MA m.length cm, .slice EA ne ce, .int .i64 ((at_ : Nat) : Int), .bool a, .pointer (some ⟨bs, 0, none⟩), .bool false, .int .i64 0], rd kBool IA ci inp, rd kBool QA cq q, rd kBool MA cm m]
 refine WC.seq ?_
 refine WC.region ?_
 refine WL.loud (.nil) (Ld.box rfl rfl) trivial rfl ?_
 rintro _ _ ⟨b_1, rfl, rfl⟩
 refine WL.quiet (Qt.assign rfl) rfl rfl ?_
 refine WL.nil ?_
 refine WX.next ?_
 refine WC.seq ?_
 refine WC.calm (Calm.then (calm_FQ _ _)) fun hC => ?_
 refine WC.draw (Γq := [blk b_1 49 [.int .i64 x.op, .int .i64 x.sp, .int .i64 x.n, .int .i64 x.arg], blk bm 96 [.slice CA code.length cc, .slice IA inp.length ci, .slice QA q.length cq, .slice MA m.length cm, .slice EA ne ce, .int .i64 ((at_ : Nat) : Int), .bool a, .pointer (some ⟨bs, 0, none⟩), .bool false, .int .i64 0], rd kBool IA ci inp, rd kBool QA cq q, rd kBool MA cm m]) [0, 1, 2, 3, 4, 5, 6, 7, 8, 9, 10, 11, 12, 13, 14] mixed ?_
 refine WA.named (.take 0 rfl (.take 0 rfl (.u 0 rfl (.u 1 rfl (.u 2 rfl (.nil)))))) fun sl_1 => ?_
 refine WA.tk 0 (by kernel_rfl) rfl hC (Qt.move rfl) trivial rfl sl_1 ?_
 refine WA.tk 1 (by kernel_rfl) rfl hC (Qt.nilCheck rfl) trivial rfl sl_1 ?_
 refine WA.tk 2 (by kernel_rfl) rfl hC (Qt.fieldAddrB tf96_1 rfl) trivial rfl sl_1 ?_
 refine WA.tk 3 (by kernel_rfl) rfl hC (Qt.loadB 1 rfl ta26 rfl rfl) trivial rfl sl_1 ?_
 refine WA.tk 4 (by kernel_rfl) rfl hC (Qt.move rfl) trivial rfl sl_1 ?_
 refine WA.tk 5 (by kernel_rfl) rfl hC (Qt.nilCheck rfl) trivial rfl sl_1 ?_
 refine WA.tk 6 (by kernel_rfl) rfl hC (Qt.fieldAddrB tf96_2 rfl) trivial rfl sl_1 ?_
 refine WA.tk 7 (by kernel_rfl) rfl hC (Qt.loadBA 1 rfl ta28 ti28 rfl rfl) trivial rfl sl_1 ?_
 refine WA.tk 8 (by kernel_rfl) rfl hC (Qt.fieldAddrB tf49_1 rfl) trivial rfl sl_1 ?_
 refine WA.tk 9 (by kernel_rfl) rfl hC (Qt.loadBA 0 rfl ta47 ti47 rfl rfl) trivial rfl sl_1 ?_
 refine WA.one 10 (by kernel_rfl) ?_
 refine WO.call rfl (.u 2 rfl (.u 3 rfl (.u 4 rfl (.nil)))) (Cl.func cb84 rfl) (stateReadW inp q m _ _ _ _ _ _ _ _ _ x.sp x.n) trivial rfl (by rintro _ _ ⟨rfl, rfl⟩; exact ⟨_, (.take 0 rfl (.take 0 rfl (.u 0 rfl (.u 1 rfl (.u 2 rfl (.nil))))))⟩) ?_
 rintro _ _ ⟨rfl, rfl⟩
 refine WA.tk 11 (by kernel_rfl) rfl hC (Qt.move rfl) trivial rfl sl_1 ?_
 refine WA.tk 12 (by kernel_rfl) rfl hC (Qt.extract rfl rfl) trivial rfl sl_1 ?_
 refine WA.tk 13 (by kernel_rfl) rfl hC (Qt.extract rfl rfl) trivial rfl sl_1 ?_
 refine WA.tk 14 (by kernel_rfl) rfl hC (Qt.assign rfl) trivial rfl sl_1 ?_
 refine WA.phase (K' := [0, 1, 2, 3, 4, 5, 6, 7, 8, 9, 10, 11, 12, 13, 14, 15]) (Γq' := [blk b_1 49 [.int .i64 x.op, .int .i64 x.sp, .int .i64 x.n, .int .i64 x.arg], blk bm 96 [.slice CA code.length cc, .slice IA inp.length ci, .slice QA q.length cq, .slice MA m.length cm, .slice EA ne ce, .int .i64 ((at_ : Nat) : Int), .bool a, .pointer (some ⟨bs, 0, none⟩), .bool false, .int .i64 0], rd kBool IA ci inp, rd kBool QA cq q, rd kBool MA cm m]) (by kernel_rfl) ?_
 refine WA.tk 15 (by kernel_rfl) rfl hC (Qt.assign rfl) trivial rfl sl_1 ?_
 refine WA.done (by kernel_rfl) ?_
 refine WX.next ?_
 refine WC.seq ?_
 refine WC.seq ?_
 refine WC.region ?_
 refine WL.quiet (Qt.move rfl) rfl rfl ?_
 refine WL.quiet (Qt.neq rfl rfl) rfl rfl ?_
 refine WL.nil ?_
 refine WX.next ?_
 refine WC.condD rfl (fun hc_1 => ?_) (fun hc_1 => ?_)
 ·
  exact absurd hr hc_1
 ·
  refine WC.skip ?_
  refine WX.next ?_
  refine WC.seq ?_
  rcases (show x.op = 0 ∨ x.op = 1 ∨ x.op = 2 ∨ x.op = 3 ∨ x.op = 4 ∨ x.op = 5 from by omega) with hop | hop | hop | hop | hop | hop
  ·
   rw [hop]
   refine WC.seq ?_
   refine WC.region ?_
   refine WL.quiet (Qt.fieldAddrB tf49_0 rfl) rfl rfl ?_
   refine WL.quiet (Qt.loadB 0 rfl ta3 rfl rfl) rfl rfl ?_
   refine WL.nil ?_
   refine WX.next ?_
   refine WC.block ?_
   refine WC.seq ?_
   refine WC.seq ?_
   refine WC.region ?_
   refine WL.quiet (Qt.eql rfl rfl) rfl rfl ?_
   refine WL.quiet (Qt.assign rfl) rfl rfl ?_
   refine WL.nil ?_
   refine WX.next ?_
   refine WC.no rfl ?_
   refine WC.seq ?_
   refine WC.region ?_
   refine WL.quiet (Qt.eql rfl rfl) rfl rfl ?_
   refine WL.quiet (Qt.assign rfl) rfl rfl ?_
   refine WL.nil ?_
   refine WX.next ?_
   refine WC.no rfl ?_
   refine WC.region ?_
   refine WL.quiet (Qt.eql rfl rfl) rfl rfl ?_
   refine WL.quiet (Qt.assign rfl) rfl rfl ?_
   refine WL.nil ?_
   refine WX.next ?_
   refine WC.no rfl ?_
   refine WC.skip ?_
   refine WX.block_end ?_
   refine WX.next ?_
   refine WC.seq ?_
   refine WC.seq ?_
   refine WC.region ?_
   refine WL.quiet (Qt.fieldAddrB tf49_0 rfl) rfl rfl ?_
   refine WL.quiet (Qt.loadB 0 rfl ta3 rfl rfl) rfl rfl ?_
   refine WL.nil ?_
   refine WX.next ?_
   refine WC.block ?_
   refine WC.seq ?_
   refine WC.seq ?_
   refine WC.region ?_
   refine WL.quiet (Qt.eql rfl rfl) rfl rfl ?_
   refine WL.quiet (Qt.assign rfl) rfl rfl ?_
   refine WL.nil ?_
   refine WX.next ?_
   refine WC.yes rfl ?_
   refine WC.skip ?_
   refine WX.next ?_
   refine WC.yes rfl ?_
   refine WC.region ?_
   refine WL.quiet (Qt.move rfl) rfl rfl ?_
   refine WL.quiet (Qt.move rfl) rfl rfl ?_
   refine WL.quiet (Qt.nilCheck rfl) rfl rfl ?_
   refine WL.quiet (Qt.fieldAddrB tf96_4 rfl) rfl rfl ?_
   refine WL.loud (.take 1 rfl (.nil)) (Ld.store ti4 rfl rfl rfl rfl rfl rfl) trivial rfl ?_
   rintro _ _ rfl
   refine WL.nil ?_
   refine WX.block_end ?_
   refine WX.next ?_
   refine WC.seq ?_
   refine WC.region ?_
   refine WL.quiet (Qt.assign rfl) rfl rfl ?_
   refine WL.nil ?_
   refine WX.next ?_
   refine WC.ret ?_
   refine WX.ret1 (.take 0 rfl (.nil)) rfl rfl ?_
   first | exact ⟨rfl, rfl⟩ | (subst_vars; exact ⟨rfl, rfl⟩)
  ·
   rw [hop]
   refine WC.seq ?_
   refine WC.region ?_
   refine WL.quiet (Qt.fieldAddrB tf49_0 rfl) rfl rfl ?_
   refine WL.quiet (Qt.loadB 0 rfl ta3 rfl rfl) rfl rfl ?_
   refine WL.nil ?_
   refine WX.next ?_
   refine WC.block ?_
   refine WC.seq ?_
   refine WC.seq ?_
   refine WC.region ?_
   refine WL.quiet (Qt.eql rfl rfl) rfl rfl ?_
   refine WL.quiet (Qt.assign rfl) rfl rfl ?_
   refine WL.nil ?_
   refine WX.next ?_
   refine WC.yes rfl ?_
   refine WC.skip ?_
   refine WX.next ?_
   refine WC.yes rfl ?_
   refine WC.region ?_
   refine WL.quiet (Qt.move rfl) rfl rfl ?_
   refine WL.quiet (Qt.not rfl) rfl rfl ?_
   refine WL.quiet (Qt.assign rfl) rfl rfl ?_
   refine WL.nil ?_
   refine WX.block_end ?_
   refine WX.next ?_
   refine WC.seq ?_
   refine WC.seq ?_
   refine WC.region ?_
   refine WL.quiet (Qt.fieldAddrB tf49_0 rfl) rfl rfl ?_
   refine WL.quiet (Qt.loadB 0 rfl ta3 rfl rfl) rfl rfl ?_
   refine WL.nil ?_
   refine WX.next ?_
   refine WC.block ?_
   refine WC.seq ?_
   refine WC.seq ?_
   refine WC.region ?_
   refine WL.quiet (Qt.eql rfl rfl) rfl rfl ?_
   refine WL.quiet (Qt.assign rfl) rfl rfl ?_
   refine WL.nil ?_
   refine WX.next ?_
   refine WC.no rfl ?_
   refine WC.region ?_
   refine WL.quiet (Qt.eql rfl rfl) rfl rfl ?_
   refine WL.quiet (Qt.assign rfl) rfl rfl ?_
   refine WL.nil ?_
   refine WX.next ?_
   refine WC.yes rfl ?_
   refine WC.region ?_
   refine WL.quiet (Qt.move rfl) rfl rfl ?_
   refine WL.quiet (Qt.move rfl) rfl rfl ?_
   refine WL.quiet (Qt.nilCheck rfl) rfl rfl ?_
   refine WL.quiet (Qt.fieldAddrB tf96_4 rfl) rfl rfl ?_
   refine WL.loud (.take 1 rfl (.nil)) (Ld.store ti4 rfl rfl rfl rfl rfl rfl) trivial rfl ?_
   rintro _ _ rfl
   refine WL.nil ?_
   refine WX.block_end ?_
   refine WX.next ?_
   refine WC.seq ?_
   refine WC.region ?_
   refine WL.quiet (Qt.assign rfl) rfl rfl ?_
   refine WL.nil ?_
   refine WX.next ?_
   refine WC.ret ?_
   refine WX.ret1 (.take 0 rfl (.nil)) rfl rfl ?_
   first | exact ⟨rfl, rfl⟩ | (subst_vars; exact ⟨rfl, rfl⟩)
  ·
   rw [hop]
   refine WC.seq ?_
   refine WC.region ?_
   refine WL.quiet (Qt.fieldAddrB tf49_0 rfl) rfl rfl ?_
   refine WL.quiet (Qt.loadB 0 rfl ta3 rfl rfl) rfl rfl ?_
   refine WL.nil ?_
   refine WX.next ?_
   refine WC.block ?_
   refine WC.seq ?_
   refine WC.seq ?_
   refine WC.region ?_
   refine WL.quiet (Qt.eql rfl rfl) rfl rfl ?_
   refine WL.quiet (Qt.assign rfl) rfl rfl ?_
   refine WL.nil ?_
   refine WX.next ?_
   refine WC.no rfl ?_
   refine WC.seq ?_
   refine WC.region ?_
   refine WL.quiet (Qt.eql rfl rfl) rfl rfl ?_
   refine WL.quiet (Qt.assign rfl) rfl rfl ?_
   refine WL.nil ?_
   refine WX.next ?_
   refine WC.no rfl ?_
   refine WC.region ?_
   refine WL.quiet (Qt.eql rfl rfl) rfl rfl ?_
   refine WL.quiet (Qt.assign rfl) rfl rfl ?_
   refine WL.nil ?_
   refine WX.next ?_
   refine WC.no rfl ?_
   refine WC.skip ?_
   refine WX.block_end ?_
   refine WX.next ?_
   refine WC.seq ?_
   refine WC.seq ?_
   refine WC.region ?_
   refine WL.quiet (Qt.fieldAddrB tf49_0 rfl) rfl rfl ?_
   refine WL.quiet (Qt.loadB 0 rfl ta3 rfl rfl) rfl rfl ?_
   refine WL.nil ?_
   refine WX.next ?_
   refine WC.block ?_
   refine WC.seq ?_
   refine WC.seq ?_
   refine WC.region ?_
   refine WL.quiet (Qt.eql rfl rfl) rfl rfl ?_
   refine WL.quiet (Qt.assign rfl) rfl rfl ?_
   refine WL.nil ?_
   refine WX.next ?_
   refine WC.no rfl ?_
   refine WC.region ?_
   refine WL.quiet (Qt.eql rfl rfl) rfl rfl ?_
   refine WL.quiet (Qt.assign rfl) rfl rfl ?_
   refine WL.nil ?_
   refine WX.next ?_
   refine WC.no rfl ?_
   refine WC.seq ?_
   refine WC.seq ?_
   refine WC.region ?_
   refine WL.quiet (Qt.eql rfl rfl) rfl rfl ?_
   refine WL.quiet (Qt.assign rfl) rfl rfl ?_
   refine WL.nil ?_
   refine WX.next ?_
   refine WC.yes rfl ?_
   refine WC.skip ?_
   refine WX.next ?_
   refine WC.yes rfl ?_
   refine WC.region ?_
   refine WL.quiet (Qt.move rfl) rfl rfl ?_
   refine WL.quiet (Qt.move rfl) rfl rfl ?_
   refine WL.quiet (Qt.nilCheck rfl) rfl rfl ?_
   refine WL.quiet (Qt.fieldAddrB tf96_4 rfl) rfl rfl ?_
   refine WL.quiet (Qt.loadB 1 rfl ta4 rfl rfl) rfl rfl ?_
   refine WL.quiet (Qt.move rfl) rfl rfl ?_
   refine WL.splitB 59 rfl rfl (fun hg_1 => ?_) (fun hg_1 => ?_)
   ·
    refine WL.quietG 5 true rfl 59 rfl rfl (Qt.move rfl) rfl ?_
    refine WL.quiet (Qt.pickT rfl rfl) rfl rfl ?_
    refine WL.quiet (Qt.nilCheck rfl) rfl rfl ?_
    refine WL.quiet (Qt.fieldAddrB tf96_4 rfl) rfl rfl ?_
    refine WL.loud (.take 1 rfl (.nil)) (Ld.store ti4 rfl rfl rfl rfl rfl rfl) trivial rfl ?_
    rintro _ _ rfl
    refine WL.nil ?_
    refine WX.block_end ?_
    refine WX.next ?_
    refine WC.seq ?_
    refine WC.region ?_
    refine WL.quiet (Qt.assign rfl) rfl rfl ?_
    refine WL.nil ?_
    refine WX.next ?_
    refine WC.ret ?_
    refine WX.ret1 (.take 0 rfl (.nil)) rfl rfl ?_
    first | exact ⟨rfl, rfl⟩ | (subst_vars; exact ⟨rfl, rfl⟩)
   ·
    refine WL.skipG 5 true false rfl 59 rfl rfl rfl rfl ?_
    refine WL.quiet (Qt.pickF rfl rfl) rfl rfl ?_
    refine WL.quiet (Qt.nilCheck rfl) rfl rfl ?_
    refine WL.quiet (Qt.fieldAddrB tf96_4 rfl) rfl rfl ?_
    refine WL.loud (.take 1 rfl (.nil)) (Ld.store ti4 rfl rfl rfl rfl rfl rfl) trivial rfl ?_
    rintro _ _ rfl
    refine WL.nil ?_
    refine WX.block_end ?_
    refine WX.next ?_
    refine WC.seq ?_
    refine WC.region ?_
    refine WL.quiet (Qt.assign rfl) rfl rfl ?_
    refine WL.nil ?_
    refine WX.next ?_
    refine WC.ret ?_
    refine WX.ret1 (.take 0 rfl (.nil)) rfl rfl ?_
    first | exact ⟨rfl, rfl⟩ | (subst_vars; exact ⟨rfl, rfl⟩)
  ·
   rw [hop]
   refine WC.seq ?_
   refine WC.region ?_
   refine WL.quiet (Qt.fieldAddrB tf49_0 rfl) rfl rfl ?_
   refine WL.quiet (Qt.loadB 0 rfl ta3 rfl rfl) rfl rfl ?_
   refine WL.nil ?_
   refine WX.next ?_
   refine WC.block ?_
   refine WC.seq ?_
   refine WC.seq ?_
   refine WC.region ?_
   refine WL.quiet (Qt.eql rfl rfl) rfl rfl ?_
   refine WL.quiet (Qt.assign rfl) rfl rfl ?_
   refine WL.nil ?_
   refine WX.next ?_
   refine WC.no rfl ?_
   refine WC.seq ?_
   refine WC.region ?_
   refine WL.quiet (Qt.eql rfl rfl) rfl rfl ?_
   refine WL.quiet (Qt.assign rfl) rfl rfl ?_
   refine WL.nil ?_
   refine WX.next ?_
   refine WC.yes rfl ?_
   refine WC.skip ?_
   refine WX.next ?_
   refine WC.yes rfl ?_
   refine WC.region ?_
   refine WL.quiet (Qt.move rfl) rfl rfl ?_
   refine WL.quiet (Qt.not rfl) rfl rfl ?_
   refine WL.quiet (Qt.assign rfl) rfl rfl ?_
   refine WL.nil ?_
   refine WX.block_end ?_
   refine WX.next ?_
   refine WC.seq ?_
   refine WC.seq ?_
   refine WC.region ?_
   refine WL.quiet (Qt.fieldAddrB tf49_0 rfl) rfl rfl ?_
   refine WL.quiet (Qt.loadB 0 rfl ta3 rfl rfl) rfl rfl ?_
   refine WL.nil ?_
   refine WX.next ?_
   refine WC.block ?_
   refine WC.seq ?_
   refine WC.seq ?_
   refine WC.region ?_
   refine WL.quiet (Qt.eql rfl rfl) rfl rfl ?_
   refine WL.quiet (Qt.assign rfl) rfl rfl ?_
   refine WL.nil ?_
   refine WX.next ?_
   refine WC.no rfl ?_
   refine WC.region ?_
   refine WL.quiet (Qt.eql rfl rfl) rfl rfl ?_
   refine WL.quiet (Qt.assign rfl) rfl rfl ?_
   refine WL.nil ?_
   refine WX.next ?_
   refine WC.no rfl ?_
   refine WC.seq ?_
   refine WC.seq ?_
   refine WC.region ?_
   refine WL.quiet (Qt.eql rfl rfl) rfl rfl ?_
   refine WL.quiet (Qt.assign rfl) rfl rfl ?_
   refine WL.nil ?_
   refine WX.next ?_
   refine WC.no rfl ?_
   refine WC.region ?_
   refine WL.quiet (Qt.eql rfl rfl) rfl rfl ?_
   refine WL.quiet (Qt.assign rfl) rfl rfl ?_
   refine WL.nil ?_
   refine WX.next ?_
   refine WC.yes rfl ?_
   refine WC.region ?_
   refine WL.quiet (Qt.move rfl) rfl rfl ?_
   refine WL.quiet (Qt.move rfl) rfl rfl ?_
   refine WL.quiet (Qt.nilCheck rfl) rfl rfl ?_
   refine WL.quiet (Qt.fieldAddrB tf96_4 rfl) rfl rfl ?_
   refine WL.quiet (Qt.loadB 1 rfl ta4 rfl rfl) rfl rfl ?_
   refine WL.quiet (Qt.move rfl) rfl rfl ?_
   refine WL.splitB 59 rfl rfl (fun hg_2 => ?_) (fun hg_2 => ?_)
   ·
    refine WL.quietG 5 true rfl 59 rfl rfl (Qt.move rfl) rfl ?_
    refine WL.quiet (Qt.pickT rfl rfl) rfl rfl ?_
    refine WL.quiet (Qt.nilCheck rfl) rfl rfl ?_
    refine WL.quiet (Qt.fieldAddrB tf96_4 rfl) rfl rfl ?_
    refine WL.loud (.take 1 rfl (.nil)) (Ld.store ti4 rfl rfl rfl rfl rfl rfl) trivial rfl ?_
    rintro _ _ rfl
    refine WL.nil ?_
    refine WX.block_end ?_
    refine WX.next ?_
    refine WC.seq ?_
    refine WC.region ?_
    refine WL.quiet (Qt.assign rfl) rfl rfl ?_
    refine WL.nil ?_
    refine WX.next ?_
    refine WC.ret ?_
    refine WX.ret1 (.take 0 rfl (.nil)) rfl rfl ?_
    first | exact ⟨rfl, rfl⟩ | (subst_vars; exact ⟨rfl, rfl⟩)
   ·
    refine WL.skipG 5 true false rfl 59 rfl rfl rfl rfl ?_
    refine WL.quiet (Qt.pickF rfl rfl) rfl rfl ?_
    refine WL.quiet (Qt.nilCheck rfl) rfl rfl ?_
    refine WL.quiet (Qt.fieldAddrB tf96_4 rfl) rfl rfl ?_
    refine WL.loud (.take 1 rfl (.nil)) (Ld.store ti4 rfl rfl rfl rfl rfl rfl) trivial rfl ?_
    rintro _ _ rfl
    refine WL.nil ?_
    refine WX.block_end ?_
    refine WX.next ?_
    refine WC.seq ?_
    refine WC.region ?_
    refine WL.quiet (Qt.assign rfl) rfl rfl ?_
    refine WL.nil ?_
    refine WX.next ?_
    refine WC.ret ?_
    refine WX.ret1 (.take 0 rfl (.nil)) rfl rfl ?_
    first | exact ⟨rfl, rfl⟩ | (subst_vars; exact ⟨rfl, rfl⟩)
  ·
   rw [hop]
   refine WC.seq ?_
   refine WC.region ?_
   refine WL.quiet (Qt.fieldAddrB tf49_0 rfl) rfl rfl ?_
   refine WL.quiet (Qt.loadB 0 rfl ta3 rfl rfl) rfl rfl ?_
   refine WL.nil ?_
   refine WX.next ?_
   refine WC.block ?_
   refine WC.seq ?_
   refine WC.seq ?_
   refine WC.region ?_
   refine WL.quiet (Qt.eql rfl rfl) rfl rfl ?_
   refine WL.quiet (Qt.assign rfl) rfl rfl ?_
   refine WL.nil ?_
   refine WX.next ?_
   refine WC.no rfl ?_
   refine WC.seq ?_
   refine WC.region ?_
   refine WL.quiet (Qt.eql rfl rfl) rfl rfl ?_
   refine WL.quiet (Qt.assign rfl) rfl rfl ?_
   refine WL.nil ?_
   refine WX.next ?_
   refine WC.no rfl ?_
   refine WC.region ?_
   refine WL.quiet (Qt.eql rfl rfl) rfl rfl ?_
   refine WL.quiet (Qt.assign rfl) rfl rfl ?_
   refine WL.nil ?_
   refine WX.next ?_
   refine WC.no rfl ?_
   refine WC.skip ?_
   refine WX.block_end ?_
   refine WX.next ?_
   refine WC.seq ?_
   refine WC.seq ?_
   refine WC.region ?_
   refine WL.quiet (Qt.fieldAddrB tf49_0 rfl) rfl rfl ?_
   refine WL.quiet (Qt.loadB 0 rfl ta3 rfl rfl) rfl rfl ?_
   refine WL.nil ?_
   refine WX.next ?_
   refine WC.block ?_
   refine WC.seq ?_
   refine WC.seq ?_
   refine WC.region ?_
   refine WL.quiet (Qt.eql rfl rfl) rfl rfl ?_
   refine WL.quiet (Qt.assign rfl) rfl rfl ?_
   refine WL.nil ?_
   refine WX.next ?_
   refine WC.no rfl ?_
   refine WC.region ?_
   refine WL.quiet (Qt.eql rfl rfl) rfl rfl ?_
   refine WL.quiet (Qt.assign rfl) rfl rfl ?_
   refine WL.nil ?_
   refine WX.next ?_
   refine WC.no rfl ?_
   refine WC.seq ?_
   refine WC.seq ?_
   refine WC.region ?_
   refine WL.quiet (Qt.eql rfl rfl) rfl rfl ?_
   refine WL.quiet (Qt.assign rfl) rfl rfl ?_
   refine WL.nil ?_
   refine WX.next ?_
   refine WC.no rfl ?_
   refine WC.region ?_
   refine WL.quiet (Qt.eql rfl rfl) rfl rfl ?_
   refine WL.quiet (Qt.assign rfl) rfl rfl ?_
   refine WL.nil ?_
   refine WX.next ?_
   refine WC.no rfl ?_
   refine WC.region ?_
   refine WL.quiet (Qt.move rfl) rfl rfl ?_
   refine WL.quiet (Qt.move rfl) rfl rfl ?_
   refine WL.quiet (Qt.nilCheck rfl) rfl rfl ?_
   refine WL.quiet (Qt.fieldAddrB tf96_4 rfl) rfl rfl ?_
   refine WL.quiet (Qt.loadB 1 rfl ta4 rfl rfl) rfl rfl ?_
   refine WL.quiet (Qt.move rfl) rfl rfl ?_
   refine WL.splitB 39 rfl rfl (fun hg_3 => ?_) (fun hg_3 => ?_)
   ·
    refine WL.skipG 5 false true rfl 39 rfl rfl rfl rfl ?_
    refine WL.quiet (Qt.pickT rfl rfl) rfl rfl ?_
    refine WL.quiet (Qt.nilCheck rfl) rfl rfl ?_
    refine WL.quiet (Qt.fieldAddrB tf96_4 rfl) rfl rfl ?_
    refine WL.loud (.take 1 rfl (.nil)) (Ld.store ti4 rfl rfl rfl rfl rfl rfl) trivial rfl ?_
    rintro _ _ rfl
    refine WL.nil ?_
    refine WX.block_end ?_
    refine WX.next ?_
    refine WC.seq ?_
    refine WC.region ?_
    refine WL.quiet (Qt.assign rfl) rfl rfl ?_
    refine WL.nil ?_
    refine WX.next ?_
    refine WC.ret ?_
    refine WX.ret1 (.take 0 rfl (.nil)) rfl rfl ?_
    first | exact ⟨rfl, rfl⟩ | (subst_vars; exact ⟨rfl, rfl⟩)
   ·
    refine WL.quietG 5 false rfl 39 rfl rfl (Qt.move rfl) rfl ?_
    refine WL.quiet (Qt.pickF rfl rfl) rfl rfl ?_
    refine WL.quiet (Qt.nilCheck rfl) rfl rfl ?_
    refine WL.quiet (Qt.fieldAddrB tf96_4 rfl) rfl rfl ?_
    refine WL.loud (.take 1 rfl (.nil)) (Ld.store ti4 rfl rfl rfl rfl rfl rfl) trivial rfl ?_
    rintro _ _ rfl
    refine WL.nil ?_
    refine WX.block_end ?_
    refine WX.next ?_
    refine WC.seq ?_
    refine WC.region ?_
    refine WL.quiet (Qt.assign rfl) rfl rfl ?_
    refine WL.nil ?_
    refine WX.next ?_
    refine WC.ret ?_
    refine WX.ret1 (.take 0 rfl (.nil)) rfl rfl ?_
    first | exact ⟨rfl, rfl⟩ | (subst_vars; exact ⟨rfl, rfl⟩)
  ·
   rw [hop]
   refine WC.seq ?_
   refine WC.region ?_
   refine WL.quiet (Qt.fieldAddrB tf49_0 rfl) rfl rfl ?_
   refine WL.quiet (Qt.loadB 0 rfl ta3 rfl rfl) rfl rfl ?_
   refine WL.nil ?_
   refine WX.next ?_
   refine WC.block ?_
   refine WC.seq ?_
   refine WC.seq ?_
   refine WC.region ?_
   refine WL.quiet (Qt.eql rfl rfl) rfl rfl ?_
   refine WL.quiet (Qt.assign rfl) rfl rfl ?_
   refine WL.nil ?_
   refine WX.next ?_
   refine WC.no rfl ?_
   refine WC.seq ?_
   refine WC.region ?_
   refine WL.quiet (Qt.eql rfl rfl) rfl rfl ?_
   refine WL.quiet (Qt.assign rfl) rfl rfl ?_
   refine WL.nil ?_
   refine WX.next ?_
   refine WC.no rfl ?_
   refine WC.region ?_
   refine WL.quiet (Qt.eql rfl rfl) rfl rfl ?_
   refine WL.quiet (Qt.assign rfl) rfl rfl ?_
   refine WL.nil ?_
   refine WX.next ?_
   refine WC.yes rfl ?_
   refine WC.region ?_
   refine WL.quiet (Qt.move rfl) rfl rfl ?_
   refine WL.quiet (Qt.not rfl) rfl rfl ?_
   refine WL.quiet (Qt.assign rfl) rfl rfl ?_
   refine WL.nil ?_
   refine WX.block_end ?_
   refine WX.next ?_
   refine WC.seq ?_
   refine WC.seq ?_
   refine WC.region ?_
   refine WL.quiet (Qt.fieldAddrB tf49_0 rfl) rfl rfl ?_
   refine WL.quiet (Qt.loadB 0 rfl ta3 rfl rfl) rfl rfl ?_
   refine WL.nil ?_
   refine WX.next ?_
   refine WC.block ?_
   refine WC.seq ?_
   refine WC.seq ?_
   refine WC.region ?_
   refine WL.quiet (Qt.eql rfl rfl) rfl rfl ?_
   refine WL.quiet (Qt.assign rfl) rfl rfl ?_
   refine WL.nil ?_
   refine WX.next ?_
   refine WC.no rfl ?_
   refine WC.region ?_
   refine WL.quiet (Qt.eql rfl rfl) rfl rfl ?_
   refine WL.quiet (Qt.assign rfl) rfl rfl ?_
   refine WL.nil ?_
   refine WX.next ?_
   refine WC.no rfl ?_
   refine WC.seq ?_
   refine WC.seq ?_
   refine WC.region ?_
   refine WL.quiet (Qt.eql rfl rfl) rfl rfl ?_
   refine WL.quiet (Qt.assign rfl) rfl rfl ?_
   refine WL.nil ?_
   refine WX.next ?_
   refine WC.no rfl ?_
   refine WC.region ?_
   refine WL.quiet (Qt.eql rfl rfl) rfl rfl ?_
   refine WL.quiet (Qt.assign rfl) rfl rfl ?_
   refine WL.nil ?_
   refine WX.next ?_
   refine WC.no rfl ?_
   refine WC.region ?_
   refine WL.quiet (Qt.move rfl) rfl rfl ?_
   refine WL.quiet (Qt.move rfl) rfl rfl ?_
   refine WL.quiet (Qt.nilCheck rfl) rfl rfl ?_
   refine WL.quiet (Qt.fieldAddrB tf96_4 rfl) rfl rfl ?_
   refine WL.quiet (Qt.loadB 1 rfl ta4 rfl rfl) rfl rfl ?_
   refine WL.quiet (Qt.move rfl) rfl rfl ?_
   refine WL.splitB 39 rfl rfl (fun hg_4 => ?_) (fun hg_4 => ?_)
   ·
    refine WL.skipG 5 false true rfl 39 rfl rfl rfl rfl ?_
    refine WL.quiet (Qt.pickT rfl rfl) rfl rfl ?_
    refine WL.quiet (Qt.nilCheck rfl) rfl rfl ?_
    refine WL.quiet (Qt.fieldAddrB tf96_4 rfl) rfl rfl ?_
    refine WL.loud (.take 1 rfl (.nil)) (Ld.store ti4 rfl rfl rfl rfl rfl rfl) trivial rfl ?_
    rintro _ _ rfl
    refine WL.nil ?_
    refine WX.block_end ?_
    refine WX.next ?_
    refine WC.seq ?_
    refine WC.region ?_
    refine WL.quiet (Qt.assign rfl) rfl rfl ?_
    refine WL.nil ?_
    refine WX.next ?_
    refine WC.ret ?_
    refine WX.ret1 (.take 0 rfl (.nil)) rfl rfl ?_
    first | exact ⟨rfl, rfl⟩ | (subst_vars; exact ⟨rfl, rfl⟩)
   ·
    refine WL.quietG 5 false rfl 39 rfl rfl (Qt.move rfl) rfl ?_
    refine WL.quiet (Qt.pickF rfl rfl) rfl rfl ?_
    refine WL.quiet (Qt.nilCheck rfl) rfl rfl ?_
    refine WL.quiet (Qt.fieldAddrB tf96_4 rfl) rfl rfl ?_
    refine WL.loud (.take 1 rfl (.nil)) (Ld.store ti4 rfl rfl rfl rfl rfl rfl) trivial rfl ?_
    rintro _ _ rfl
    refine WL.nil ?_
    refine WX.block_end ?_
    refine WX.next ?_
    refine WC.seq ?_
    refine WC.region ?_
    refine WL.quiet (Qt.assign rfl) rfl rfl ?_
    refine WL.nil ?_
    refine WX.next ?_
    refine WC.ret ?_
    refine WX.ret1 (.take 0 rfl (.nil)) rfl rfl ?_
    first | exact ⟨rfl, rfl⟩ | (subst_vars; exact ⟨rfl, rfl⟩)

end Go.Proofs.YtolggjmgfijjfaaGreatDoor.Sep

/- A walk, printed by gen.py out of hints. -/
namespace Go.Proofs.YtolggjmgfijjfaaGreatDoor.Sep
open Go
variable {μ : Prop}
theorem edgeW (code : List Ins) (inp q m : List Bool) (CA IA QA MA EA : Option Addr) (cc ci cq cm ce bm bs at_ : Nat) (a : Bool) (E : List Bool) (x : Ins) (hr : ((Bits.mk inp q m).rd x.sp x.n).2 = 0) (harg : 0 ≤ x.arg ∧ x.arg < E.length) : Spec μ Tryz.prog 57 #[.pointer (some ⟨bm, 0, none⟩), .agg [.int .i64 x.op, .int .i64 x.sp, .int .i64 x.n, .int .i64 x.arg].toArray] [blk bm 96 [.slice CA code.length cc, .slice IA inp.length ci, .slice QA q.length cq, .slice MA m.length cm, .slice EA E.length ce, .int .i64 ((at_ : Nat) : Int), .bool a, .pointer (some ⟨bs, 0, none⟩), .bool false, .int .i64 0], rd kBool IA ci inp, rd kBool QA cq q, rd kBool MA cm m, row kBool 4 EA ce E] fun v Δ => ∃ EA1 ce1, v = .int .i64 0 ∧ Δ = [blk bm 96 [.slice CA code.length cc, .slice IA inp.length ci, .slice QA q.length cq, .slice MA m.length cm, .slice EA1 ((E.set x.arg.toNat ((Bits.mk inp q m).rd x.sp x.n).1).length) ce1, .int .i64 ((at_ : Nat) : Int), .bool ((((Bits.mk inp q m).rd x.sp x.n).1 != E.getD x.arg.toNat false) && (((Bits.mk inp q m).rd x.sp x.n).1 == decide (x.op = 6))), .pointer (some ⟨bs, 0, none⟩), .bool false, .int .i64 0], row kBool 4 EA1 ce1 (E.set x.arg.toNat ((Bits.mk inp q m).rd x.sp x.n).1)] := by
 refine Spec.of_body (n := 61) Tryz.func57 rfl rfl rfl fun w0 S0 O0 => ?_
 show WC _ _ _ _ _ _ [(0, .pointer (some ⟨bm, 0, none⟩)), (1, .agg [.int .i64 x.op, .int .i64 x.sp, .int .i64 x.n, .int .i64 x.arg].toArray)] [blk bm 96 [.slice CA code.length cc, .slice IA inp.length ci, .slice QA q.length cq, .slice MA m.length cm, .slice EA E.length ce, .int .i64 ((at_ : Nat) : Int), .bool a, .pointer (some ⟨bs, 0, none⟩), .bool false, .int .i64 0], rd kBool IA ci inp, rd kBool QA cq q, rd kBool MA cm m, row kBool 4 EA ce E]
 refine WC.seq ?_
 refine WC.region ?_
 refine WL.loud (.nil) (Ld.box rfl rfl) trivial rfl ?_
 rintro _ _ ⟨b_1, rfl, rfl⟩
 refine WL.quiet (Qt.assign rfl) rfl rfl ?_
 refine WL.nil ?_
 refine WX.next ?_
 refine WC.seq ?_
 refine WC.calm (Calm.then (calm_FQ _ _)) fun hC => ?_
 refine WC.draw (Γq := [blk b_1 49 [.int .i64 x.op, .int .i64 x.sp, .int .i64 x.n, .int .i64 x.arg], blk bm 96 [.slice CA code.length cc, .slice IA inp.length ci, .slice QA q.length cq, .slice MA m.length cm, .slice EA E.length ce, .int .i64 ((at_ : Nat) : Int), .bool a, .pointer (some ⟨bs, 0, none⟩), .bool false, .int .i64 0], rd kBool IA ci inp, rd kBool QA cq q, rd kBool MA cm m, row kBool 4 EA ce E]) [0, 1, 2, 3, 4, 5, 6, 7, 8, 9, 10, 11, 12, 13, 14] mixed ?_
 refine WA.named (.take 0 rfl (.take 0 rfl (.u 0 rfl (.u 1 rfl (.u 2 rfl (.take 3 rfl (.nil))))))) fun sl_1 => ?_
 refine WA.tk 0 (by kernel_rfl) rfl hC (Qt.move rfl) trivial rfl sl_1 ?_
 refine WA.tk 1 (by kernel_rfl) rfl hC (Qt.nilCheck rfl) trivial rfl sl_1 ?_
 refine WA.tk 2 (by kernel_rfl) rfl hC (Qt.fieldAddrB tf96_1 rfl) trivial rfl sl_1 ?_
 refine WA.tk 3 (by kernel_rfl) rfl hC (Qt.loadB 1 rfl ta26 rfl rfl) trivial rfl sl_1 ?_
 refine WA.tk 4 (by kernel_rfl) rfl hC (Qt.move rfl) trivial rfl sl_1 ?_
 refine WA.tk 5 (by kernel_rfl) rfl hC (Qt.nilCheck rfl) trivial rfl sl_1 ?_
 refine WA.tk 6 (by kernel_rfl) rfl hC (Qt.fieldAddrB tf96_2 rfl) trivial rfl sl_1 ?_
 refine WA.tk 7 (by kernel_rfl) rfl hC (Qt.loadBA 1 rfl ta28 ti28 rfl rfl) trivial rfl sl_1 ?_
 refine WA.tk 8 (by kernel_rfl) rfl hC (Qt.fieldAddrB tf49_1 rfl) trivial rfl sl_1 ?_
 refine WA.tk 9 (by kernel_rfl) rfl hC (Qt.loadBA 0 rfl ta47 ti47 rfl rfl) trivial rfl sl_1 ?_
 refine WA.one 10 (by kernel_rfl) ?_
 refine WO.call rfl (.u 2 rfl (.u 3 rfl (.u 4 rfl (.nil)))) (Cl.func cb84 rfl) (stateReadW inp q m _ _ _ _ _ _ _ _ _ x.sp x.n) trivial rfl (by rintro _ _ ⟨rfl, rfl⟩; exact ⟨_, (.take 0 rfl (.take 0 rfl (.u 0 rfl (.u 1 rfl (.u 2 rfl (.take 3 rfl (.nil)))))))⟩) ?_
 rintro _ _ ⟨rfl, rfl⟩
 refine WA.tk 11 (by kernel_rfl) rfl hC (Qt.move rfl) trivial rfl sl_1 ?_
 refine WA.tk 12 (by kernel_rfl) rfl hC (Qt.extract rfl rfl) trivial rfl sl_1 ?_
 refine WA.tk 13 (by kernel_rfl) rfl hC (Qt.extract rfl rfl) trivial rfl sl_1 ?_
 refine WA.tk 14 (by kernel_rfl) rfl hC (Qt.assign rfl) trivial rfl sl_1 ?_
 refine WA.phase (K' := [0, 1, 2, 3, 4, 5, 6, 7, 8, 9, 10, 11, 12, 13, 14, 15]) (Γq' := [blk b_1 49 [.int .i64 x.op, .int .i64 x.sp, .int .i64 x.n, .int .i64 x.arg], blk bm 96 [.slice CA code.length cc, .slice IA inp.length ci, .slice QA q.length cq, .slice MA m.length cm, .slice EA E.length ce, .int .i64 ((at_ : Nat) : Int), .bool a, .pointer (some ⟨bs, 0, none⟩), .bool false, .int .i64 0], rd kBool IA ci inp, rd kBool QA cq q, rd kBool MA cm m, row kBool 4 EA ce E]) (by kernel_rfl) ?_
 refine WA.tk 15 (by kernel_rfl) rfl hC (Qt.assign rfl) trivial rfl sl_1 ?_
 refine WA.done (by kernel_rfl) ?_
 refine WX.next ?_
 refine WC.seq ?_
 refine WC.seq ?_
 refine WC.region ?_
 refine WL.quiet (Qt.move rfl) rfl rfl ?_
 refine WL.quiet (Qt.neq rfl rfl) rfl rfl ?_
 refine WL.nil ?_
 refine WX.next ?_
 refine WC.condD rfl (fun hc_1 => ?_) (fun hc_1 => ?_)
 ·
  exact absurd hr hc_1
 ·
  refine WC.skip ?_
  refine WX.next ?_
  refine WC.seq ?_
  obtain ⟨j0, hj0⟩ := Int.eq_ofNat_of_zero_le harg.1
  refine WC.calm (Calm.then (calm_FQ _ _)) fun hC => ?_
  refine WC.draw (Γq := [blk b_1 49 [.int .i64 x.op, .int .i64 x.sp, .int .i64 x.n, .int .i64 x.arg], blk bm 96 [.slice CA code.length cc, .slice IA inp.length ci, .slice QA q.length cq, .slice MA m.length cm, .slice EA E.length ce, .int .i64 ((at_ : Nat) : Int), .bool a, .pointer (some ⟨bs, 0, none⟩), .bool false, .int .i64 0], rd kBool IA ci inp, rd kBool QA cq q, rd kBool MA cm m]) [0, 1, 2, 3, 4, 5, 6, 7, 8, 9, 10, 11] mixed ?_
  refine WA.named (.take 0 rfl (.take 0 rfl (.u 0 rfl (.u 1 rfl (.u 2 rfl (.nil)))))) fun sl_2 => ?_
  refine WA.tk 0 (by kernel_rfl) rfl hC (Qt.move rfl) trivial rfl sl_2 ?_
  refine WA.tk 1 (by kernel_rfl) rfl hC (Qt.nilCheck rfl) trivial rfl sl_2 ?_
  refine WA.tk 2 (by kernel_rfl) rfl hC (Qt.fieldAddrB tf96_2 rfl) trivial rfl sl_2 ?_
  refine WA.tk 3 (by kernel_rfl) rfl hC (Qt.fieldAddrB tf28_2 rfl) trivial rfl sl_2 ?_
  refine WA.tk 4 (by kernel_rfl) rfl hC (Qt.loadB 1 rfl ta26 rfl rfl) trivial rfl sl_2 ?_
  refine WA.tk 5 (by kernel_rfl) rfl hC (Qt.fieldAddrB tf49_2 rfl) trivial rfl sl_2 ?_
  refine WA.tk 6 (by kernel_rfl) rfl hC (Qt.loadB 0 rfl ta3 rfl rfl) trivial rfl sl_2 ?_
  refine WA.one 7 (by kernel_rfl) ?_
  refine WO.call rfl (.take 5 rfl (.nil)) (Cl.func cb85 rfl) ((Spec.borrowRow (tb := 4) (U := []) (by simp) (R := fun v Δ => v = .tuple [.bool (getB E x.arg).1, .int .i64 (getB E x.arg).2].toArray ∧ Δ = []) (fun v Δ h F hF => by rw [h.2] at hF; cases hF) (imageGetW E _ _ x.arg))) trivial rfl (by rintro _ _ ⟨_, ⟨rfl, rfl⟩, rfl⟩; exact ⟨_, (.take 1 rfl (.take 1 rfl (.u 1 rfl (.u 2 rfl (.u 3 rfl (.nil))))))⟩) ?_
  rintro _ _ ⟨_, ⟨rfl, rfl⟩, rfl⟩
  refine WA.named (.take 1 rfl (.take 1 rfl (.u 1 rfl (.u 2 rfl (.u 3 rfl (.nil)))))) fun sl_3 => ?_
  refine WA.tk 8 (by kernel_rfl) rfl hC (Qt.move rfl) trivial rfl sl_3 ?_
  refine WA.tk 9 (by kernel_rfl) rfl hC (Qt.extract rfl rfl) trivial rfl sl_3 ?_
  refine WA.tk 10 (by kernel_rfl) rfl hC (Qt.extract rfl rfl) trivial rfl sl_3 ?_
  refine WA.tk 11 (by kernel_rfl) rfl hC (Qt.assign rfl) trivial rfl sl_3 ?_
  refine WA.phase (K' := [0, 1, 2, 3, 4, 5, 6, 7, 8, 9, 10, 11, 12]) (Γq' := [row kBool 4 EA ce E, blk b_1 49 [.int .i64 x.op, .int .i64 x.sp, .int .i64 x.n, .int .i64 x.arg], blk bm 96 [.slice CA code.length cc, .slice IA inp.length ci, .slice QA q.length cq, .slice MA m.length cm, .slice EA E.length ce, .int .i64 ((at_ : Nat) : Int), .bool a, .pointer (some ⟨bs, 0, none⟩), .bool false, .int .i64 0], rd kBool IA ci inp, rd kBool QA cq q, rd kBool MA cm m]) (by kernel_rfl) ?_
  refine WA.named (.take 0 rfl (.take 0 rfl (.take 0 rfl (.u 0 rfl (.u 1 rfl (.u 2 rfl (.nil))))))) fun sl_4 => ?_
  refine WA.tk 12 (by kernel_rfl) rfl hC (Qt.assign rfl) trivial rfl sl_4 ?_
  refine WA.done (by kernel_rfl) ?_
  refine WX.next ?_
  refine WC.seq ?_
  refine WC.seq ?_
  refine WC.region ?_
  refine WL.quiet (Qt.move rfl) rfl rfl ?_
  refine WL.quiet (Qt.neq rfl rfl) rfl rfl ?_
  refine WL.nil ?_
  refine WX.next ?_
  refine WC.condD rfl (fun hc_2 => ?_) (fun hc_2 => ?_)
  ·
   exact absurd (by rw [hj0, getB_at (by omega)]) hc_2
  ·
   refine WC.skip ?_
   refine WX.next ?_
   refine WC.seq ?_
   obtain ⟨j, hj⟩ := Int.eq_ofNat_of_zero_le harg.1
   have hjE : j < E.length := by omega
   rw [hj]
   have hg : (getB E ((j : Nat) : Int)).1 = E.getD j false := by rw [getB_at hjE]; simp [List.getD_eq_getElem?_getD, hjE]
   rw [hg]
   refine WC.turn (.take 0 rfl (.nil)) (row_open (by omega)) ?_
   rintro _ ⟨b_2, cur_1, rfl, rfl⟩
   have hj_1 : j < E.length := by omega
   refine WC.learn 0 rfl (rowL_at j hj_1 (vBool _)) ?_
   rintro _ hel_1
   refine WC.calm (Calm.then (calm_FQ _ _)) fun hC => ?_
   refine WC.draw (Γq := [rowL kBool 4 b_2 ce E cur_1, blk b_1 49 [.int .i64 x.op, .int .i64 x.sp, .int .i64 x.n, .int .i64 ((j : Nat) : Int)], blk bm 96 [.slice CA code.length cc, .slice IA inp.length ci, .slice QA q.length cq, .slice MA m.length cm, .slice (some ⟨b_2, 0, none⟩) E.length ce, .int .i64 ((at_ : Nat) : Int), .bool a, .pointer (some ⟨bs, 0, none⟩), .bool false, .int .i64 0], rd kBool IA ci inp, rd kBool QA cq q, rd kBool MA cm m]) [0, 1, 2, 3, 4, 5, 6, 7] mixed ?_
   refine WA.named (.take 0 rfl (.take 0 rfl (.take 0 rfl (.u 0 rfl (.u 1 rfl (.u 2 rfl (.nil))))))) fun sl_5 => ?_
   refine WA.tk 0 (by kernel_rfl) rfl hC (Qt.move rfl) trivial rfl sl_5 ?_
   refine WA.tk 1 (by kernel_rfl) rfl hC (Qt.nilCheck rfl) trivial rfl sl_5 ?_
   refine WA.tk 2 (by kernel_rfl) rfl hC (Qt.fieldAddrB tf96_2 rfl) trivial rfl sl_5 ?_
   refine WA.tk 3 (by kernel_rfl) rfl hC (Qt.fieldAddrB tf28_2 rfl) trivial rfl sl_5 ?_
   refine WA.tk 4 (by kernel_rfl) rfl hC (Qt.loadB 2 rfl ta26 rfl rfl) trivial rfl sl_5 ?_
   refine WA.tk 5 (by kernel_rfl) rfl hC (Qt.fieldAddrB tf49_2 rfl) trivial rfl sl_5 ?_
   refine WA.tk 6 (by kernel_rfl) rfl hC (Qt.loadB 1 rfl ta3 rfl rfl) trivial rfl sl_5 ?_
   refine WA.tk 7 (by kernel_rfl) rfl hC (Qt.move rfl) trivial rfl sl_5 ?_
   refine WA.phase (K' := [0, 1, 2, 3, 4, 5, 6, 7, 8]) (Γq' := [rowL kBool 4 b_2 ce E cur_1, blk b_1 49 [.int .i64 x.op, .int .i64 x.sp, .int .i64 x.n, .int .i64 ((j : Nat) : Int)], blk bm 96 [.slice CA code.length cc, .slice IA inp.length ci, .slice QA q.length cq, .slice MA m.length cm, .slice (some ⟨b_2, 0, none⟩) E.length ce, .int .i64 ((at_ : Nat) : Int), .bool a, .pointer (some ⟨bs, 0, none⟩), .bool false, .int .i64 0], rd kBool IA ci inp, rd kBool QA cq q, rd kBool MA cm m]) (by kernel_rfl) ?_
   refine WA.tk 8 (by kernel_rfl) rfl hC (Qt.indexAddrB j Tryz.underlying26 ti4 rfl rfl (by first | assumption | omega)) trivial rfl sl_5 ?_
   refine WA.phase (K' := [0, 1, 2, 3, 4, 5, 6, 7, 8, 9]) (Γq' := [blk b_1 49 [.int .i64 x.op, .int .i64 x.sp, .int .i64 x.n, .int .i64 ((j : Nat) : Int)], blk bm 96 [.slice CA code.length cc, .slice IA inp.length ci, .slice QA q.length cq, .slice MA m.length cm, .slice (some ⟨b_2, 0, none⟩) E.length ce, .int .i64 ((at_ : Nat) : Int), .bool a, .pointer (some ⟨bs, 0, none⟩), .bool false, .int .i64 0], rd kBool IA ci inp, rd kBool QA cq q, rd kBool MA cm m]) (by kernel_rfl) ?_
   refine WA.one 9 (by kernel_rfl) ?_
   refine WO.loud rfl (.take 0 rfl (.nil)) (Ld.storeR (j := j) (o := 0) (((Bits.mk inp q m).rd x.sp x.n).1) (by first | assumption | omega | (simp; omega)) hel_1 ti4 rfl rfl rfl rfl rfl rfl (fun S w h => rfl)) trivial rfl (by rintro _ _ ⟨cur_2, hel_2, hoth_1, rfl⟩; exact ⟨_, (.take 1 rfl (.take 1 rfl (.u 1 rfl (.u 2 rfl (.u 3 rfl (.nil))))))⟩) ?_
   rintro _ _ ⟨cur_2, hel_2, hoth_1, rfl⟩
   refine WA.done (by kernel_rfl) ?_
   refine WX.next ?_
   refine WC.seq ?_
   refine WC.region ?_
   refine WL.quiet (Qt.move rfl) rfl rfl ?_
   refine WL.quiet (Qt.move rfl) rfl rfl ?_
   refine WL.quiet (Qt.move rfl) rfl rfl ?_
   refine WL.quiet (Qt.bneq Tryz.underlying4 rfl rfl) rfl rfl ?_
   refine WL.quiet (Qt.move rfl) rfl rfl ?_
   refine WL.splitB 52 rfl rfl (fun hg_1 => ?_) (fun hg_1 => ?_)
   ·
    refine WL.quietG 4 true rfl 52 rfl rfl (Qt.move rfl) rfl ?_
    refine WL.quietG 4 true rfl 52 rfl rfl (Qt.fieldAddrB tf49_0 rfl) rfl ?_
    refine WL.quietG 4 true rfl 52 rfl rfl (Qt.loadB 1 rfl ta3 rfl rfl) rfl ?_
    refine WL.quietG 4 true rfl 52 rfl rfl (Qt.eql rfl rfl) rfl ?_
    refine WL.quietG 4 true rfl 52 rfl rfl (Qt.beql Tryz.underlying4 rfl rfl) rfl ?_
    refine WL.quiet (Qt.pickT rfl rfl) rfl rfl ?_
    refine WL.quiet (Qt.nilCheck rfl) rfl rfl ?_
    refine WL.quiet (Qt.fieldAddrB tf96_4 rfl) rfl rfl ?_
    refine WL.loud (.take 2 rfl (.nil)) (Ld.store ti4 rfl rfl rfl rfl rfl rfl) trivial rfl ?_
    rintro _ _ rfl
    refine WL.nil ?_
    refine WX.next ?_
    refine WC.seq ?_
    refine WC.region ?_
    refine WL.quiet (Qt.assign rfl) rfl rfl ?_
    refine WL.nil ?_
    refine WX.next ?_
    refine WC.ret ?_
    refine WX.turn (.take 1 rfl (.nil)) (row_close) ?_
    rintro _ rfl
    refine WX.ret1 (.take 1 rfl (.take 0 rfl (.nil))) rfl rfl ?_
    refine ⟨(some ⟨b_2, 0, none⟩), ce, rfl, ?_⟩
    simp only [List.length_set, Int.toNat_natCast, Bool.true_and, Bool.false_and, hg_1]
   ·
    refine WL.skipG 4 true false rfl 52 rfl rfl rfl rfl ?_
    refine WL.skipG 4 true false rfl 52 rfl rfl rfl rfl ?_
    refine WL.skipG 4 true false rfl 52 rfl rfl rfl rfl ?_
    refine WL.skipG 4 true false rfl 52 rfl rfl rfl rfl ?_
    refine WL.skipG 4 true false rfl 52 rfl rfl rfl rfl ?_
    refine WL.quiet (Qt.pickF rfl rfl) rfl rfl ?_
    refine WL.quiet (Qt.nilCheck rfl) rfl rfl ?_
    refine WL.quiet (Qt.fieldAddrB tf96_4 rfl) rfl rfl ?_
    refine WL.loud (.take 2 rfl (.nil)) (Ld.store ti4 rfl rfl rfl rfl rfl rfl) trivial rfl ?_
    rintro _ _ rfl
    refine WL.nil ?_
    refine WX.next ?_
    refine WC.seq ?_
    refine WC.region ?_
    refine WL.quiet (Qt.assign rfl) rfl rfl ?_
    refine WL.nil ?_
    refine WX.next ?_
    refine WC.ret ?_
    refine WX.turn (.take 1 rfl (.nil)) (row_close) ?_
    rintro _ rfl
    refine WX.ret1 (.take 1 rfl (.take 0 rfl (.nil))) rfl rfl ?_
    refine ⟨(some ⟨b_2, 0, none⟩), ce, rfl, ?_⟩
    simp only [List.length_set, Int.toNat_natCast, Bool.true_and, Bool.false_and, hg_1]

end Go.Proofs.YtolggjmgfijjfaaGreatDoor.Sep

/- A walk, printed by gen.py out of hints. -/
namespace Go.Proofs.YtolggjmgfijjfaaGreatDoor.Sep
open Go
variable {μ : Prop}
theorem stackPushW (l : List Bool) (A : Option Addr) (c bs : Nat) (mx : Int) (x : Bool) (hl : l.length < 64) : Spec μ Tryz.prog 86 #[.pointer (some ⟨bs, 0, none⟩), .bool x] [blk bs 129 [.slice A l.length c, .int .i64 64, .int .i64 mx], row kBool 4 A c l] fun v Δ => ∃ A1 c1 mx1, v = .int .i64 0 ∧ Δ = [blk bs 129 [.slice A1 (l ++ [x]).length c1, .int .i64 64, .int .i64 mx1], row kBool 4 A1 c1 (l ++ [x])] := by
 refine Spec.of_body (n := 42) Tryz.func86 rfl rfl rfl fun w0 S0 O0 => ?_
 show WC _ _ _ _ _ _ [(0, .pointer (some ⟨bs, 0, none⟩)), (1, .bool x)] [blk bs 129 [.slice A l.length c, .int .i64 64, .int .i64 mx], row kBool 4 A c l]
 refine WC.learn (Z := Unit) (Δ := fun _ => []) (φ := fun _ => l.length ≤ c ∧ c ≤ 9223372036854775807) 1 rfl (fun S w h => ⟨(), row_bounds h, nofacts⟩) ?_
 rintro _ ⟨hb_1, hb_2⟩
 refine WC.seq ?_
 refine WC.region ?_
 refine WL.quiet (Qt.assign rfl) rfl rfl ?_
 refine WL.nil ?_
 refine WX.next ?_
 refine WC.seq ?_
 refine WC.block ?_
 refine WC.seq ?_
 refine WC.region ?_
 refine WL.quiet (Qt.move rfl) rfl rfl ?_
 refine WL.quiet (Qt.ptrNil Tryz.underlying90 rfl) rfl rfl ?_
 refine WL.quiet (Qt.assign rfl) rfl rfl ?_
 refine WL.nil ?_
 refine WX.next ?_
 refine WC.no rfl ?_
 refine WC.seq ?_
 refine WC.calm (Calm.then (Calm.inBlock (Calm.then (calm_FQ _ _)))) fun hC => ?_
 refine WC.draw (Γq := [blk bs 129 [.slice A l.length c, .int .i64 64, .int .i64 mx], row kBool 4 A c l]) [0, 1, 2, 3, 4, 5, 6, 7, 8, 9, 10] mixed ?_
 refine WA.named (.take 0 rfl (.take 0 rfl (.nil))) fun sl_1 => ?_
 refine WA.tk 0 (by kernel_rfl) rfl hC (Qt.move rfl) trivial rfl sl_1 ?_
 refine WA.tk 1 (by kernel_rfl) rfl hC (Qt.nilCheck rfl) trivial rfl sl_1 ?_
 refine WA.tk 2 (by kernel_rfl) rfl hC (Qt.fieldAddrB tf129_0 rfl) trivial rfl sl_1 ?_
 refine WA.tk 3 (by kernel_rfl) rfl hC (Qt.loadB 0 rfl ta26 rfl rfl) trivial rfl sl_1 ?_
 refine WA.tk 4 (by kernel_rfl) rfl hC (Qt.lenS Tryz.underlying26 rfl) trivial rfl sl_1 ?_
 refine WA.tk 5 (by kernel_rfl) rfl hC (Qt.move rfl) trivial rfl sl_1 ?_
 refine WA.tk 6 (by kernel_rfl) rfl hC (Qt.nilCheck rfl) trivial rfl sl_1 ?_
 refine WA.tk 7 (by kernel_rfl) rfl hC (Qt.fieldAddrB tf129_1 rfl) trivial rfl sl_1 ?_
 refine WA.tk 8 (by kernel_rfl) rfl hC (Qt.loadB 0 rfl ta3 rfl rfl) trivial rfl sl_1 ?_
 refine WA.tk 9 (by kernel_rfl) rfl hC (Qt.to (Qt.eql rfl rfl) (congrArg Value.bool (decide_eq_false (by omega)))) trivial rfl sl_1 ?_
 refine WA.tk 10 (by kernel_rfl) rfl hC (Qt.assign rfl) trivial rfl sl_1 ?_
 refine WA.done (by kernel_rfl) ?_
 refine WX.next ?_
 refine WC.no rfl ?_
 refine WC.skip ?_
 refine WX.block_end ?_
 refine WX.next ?_
 refine WC.seq ?_
 refine WC.region ?_
 refine WL.quiet (Qt.move rfl) rfl rfl ?_
 refine WL.quiet (Qt.move rfl) rfl rfl ?_
 refine WL.quiet (Qt.nilCheck rfl) rfl rfl ?_
 refine WL.quiet (Qt.fieldAddrB tf129_0 rfl) rfl rfl ?_
 refine WL.quiet (Qt.loadB 0 rfl ta26 rfl rfl) rfl rfl ?_
 refine WL.quiet (Qt.move rfl) rfl rfl ?_
 refine WL.loud (.nil) (Ld.buildSlice (zs := [.bool false]) Tryz.underlying26 ti4 rfl rfl (by kernel_rfl) rfl rfl) trivial rfl ?_
 rintro _ _ ⟨b_1, rfl, rfl⟩
 refine WL.loud (.take 2 rfl (.take 0 rfl (.nil))) (Ld.append1 (e := kBool) (xs := l) x Tryz.underlying26 ti4 rfl (by decide) (by decide) rfl rfl (by first | omega | (simp; omega)) (fun S w h => rfl)) trivial rfl ?_
 rintro _ _ ⟨A_1, c_1, rfl, rfl⟩
 refine WL.quiet (Qt.nilCheck rfl) rfl rfl ?_
 refine WL.quiet (Qt.fieldAddrB tf129_0 rfl) rfl rfl ?_
 refine WL.loud (.take 1 rfl (.nil)) (Ld.store ti26 rfl rfl rfl rfl rfl rfl) trivial rfl ?_
 rintro _ _ rfl
 refine WL.nil ?_
 refine WX.next ?_
 refine WC.seq ?_
 refine WC.calm (Calm.then (calm_FQ _ _)) fun hC => ?_
 refine WC.draw (Γq := [blk bs 129 [.slice A_1 ((l ++ [x]).length) c_1, .int .i64 64, .int .i64 mx], row kBool 4 A_1 c_1 (l ++ [x])]) [0, 1, 2, 3, 4, 5, 6, 7, 8, 9, 10] mixed ?_
 refine WA.named (.take 0 rfl (.take 0 rfl (.nil))) fun sl_2 => ?_
 refine WA.tk 0 (by kernel_rfl) rfl hC (Qt.move rfl) trivial rfl sl_2 ?_
 refine WA.tk 1 (by kernel_rfl) rfl hC (Qt.move rfl) trivial rfl sl_2 ?_
 refine WA.tk 2 (by kernel_rfl) rfl hC (Qt.nilCheck rfl) trivial rfl sl_2 ?_
 refine WA.tk 3 (by kernel_rfl) rfl hC (Qt.fieldAddrB tf129_2 rfl) trivial rfl sl_2 ?_
 refine WA.tk 4 (by kernel_rfl) rfl hC (Qt.loadB 0 rfl ta3 rfl rfl) trivial rfl sl_2 ?_
 refine WA.tk 5 (by kernel_rfl) rfl hC (Qt.move rfl) trivial rfl sl_2 ?_
 refine WA.tk 6 (by kernel_rfl) rfl hC (Qt.nilCheck rfl) trivial rfl sl_2 ?_
 refine WA.tk 7 (by kernel_rfl) rfl hC (Qt.fieldAddrB tf129_0 rfl) trivial rfl sl_2 ?_
 refine WA.tk 8 (by kernel_rfl) rfl hC (Qt.loadB 0 rfl ta26 rfl rfl) trivial rfl sl_2 ?_
 refine WA.tk 9 (by kernel_rfl) rfl hC (Qt.lenS Tryz.underlying26 rfl) trivial rfl sl_2 ?_
 refine WA.tk 10 (by kernel_rfl) rfl hC (Qt.max2 rfl rfl) trivial rfl sl_2 ?_
 refine WA.phase (K' := [0, 1, 2, 3, 4, 5, 6, 7, 8, 9, 10, 11, 12, 13]) (Γq' := [row kBool 4 A_1 c_1 (l ++ [x])]) (by kernel_rfl) ?_
 refine WA.named (.take 1 rfl (.nil)) fun sl_3 => ?_
 refine WA.tk 11 (by kernel_rfl) rfl hC (Qt.nilCheck rfl) trivial rfl sl_3 ?_
 refine WA.tk 12 (by kernel_rfl) rfl hC (Qt.fieldAddrB tf129_2 rfl) trivial rfl sl_3 ?_
 refine WA.one 13 (by kernel_rfl) ?_
 refine WO.loud rfl (.take 0 rfl (.nil)) (Ld.store ti3 rfl rfl rfl rfl rfl rfl) trivial rfl (by rintro _ _ rfl; exact ⟨_, (.take 1 rfl (.nil))⟩) ?_
 rintro _ _ rfl
 refine WA.done (by kernel_rfl) ?_
 refine WX.next ?_
 refine WC.seq ?_
 refine WC.region ?_
 refine WL.quiet (Qt.assign rfl) rfl rfl ?_
 refine WL.nil ?_
 refine WX.next ?_
 refine WC.ret ?_
 refine WX.ret1 (.take 0 rfl (.take 0 rfl (.nil))) rfl rfl ?_
 exact ⟨_, _, _, rfl, rfl⟩

end Go.Proofs.YtolggjmgfijjfaaGreatDoor.Sep

/- A walk, printed by gen.py out of hints. -/
namespace Go.Proofs.YtolggjmgfijjfaaGreatDoor.Sep
open Go
variable {μ : Prop}
theorem pushW (code : List Ins) (inp q m : List Bool) (CA IA QA MA EA : Option Addr) (cc ci cq cm ce bm bs at_ ne : Nat) (s : MS) (SA : Option Addr) (cs : Nat) (mx : Int) (x : Ins) (hs : s.stk.length < 64) : Spec μ Tryz.prog 58 #[.pointer (some ⟨bm, 0, none⟩), .agg [.int .i64 x.op, .int .i64 x.sp, .int .i64 x.n, .int .i64 x.arg].toArray] [blk bm 96 [.slice CA code.length cc, .slice IA inp.length ci, .slice QA q.length cq, .slice MA m.length cm, .slice EA ne ce, .int .i64 ((at_ : Nat) : Int), .bool s.acc, .pointer (some ⟨bs, 0, none⟩), .bool false, .int .i64 0], blk bs 129 [.slice SA s.stk.length cs, .int .i64 64, .int .i64 mx], row kBool 4 SA cs s.stk] fun v Δ => ∃ A1 c1 mx1, v = .int .i64 0 ∧ Δ = [blk bm 96 [.slice CA code.length cc, .slice IA inp.length ci, .slice QA q.length cq, .slice MA m.length cm, .slice EA ne ce, .int .i64 ((at_ : Nat) : Int), .bool s.acc, .pointer (some ⟨bs, 0, none⟩), .bool false, .int .i64 0], blk bs 129 [.slice A1 (s.stk ++ [s.acc]).length c1, .int .i64 64, .int .i64 mx1], row kBool 4 A1 c1 (s.stk ++ [s.acc])] := by
 refine Spec.of_body (n := 14) Tryz.func58 rfl rfl rfl fun w0 S0 O0 => ?_
 show WC _ _ _ _ _ _ [(0, .pointer (some ⟨bm, 0, none⟩)), (1, .agg [.int .i64 x.op, .int .i64 x.sp, .int .i64 x.n, .int .i64 x.arg].toArray)] [blk bm 96 [.slice CA code.length cc, .slice IA inp.length ci, .slice QA q.length cq, .slice MA m.length cm, .slice EA ne ce, .int .i64 ((at_ : Nat) : Int), .bool s.acc, .pointer (some ⟨bs, 0, none⟩), .bool false, .int .i64 0], blk bs 129 [.slice SA s.stk.length cs, .int .i64 64, .int .i64 mx], row kBool 4 SA cs s.stk]
 refine WC.seq ?_
 refine WC.region ?_
 refine WL.loud (.nil) (Ld.box rfl rfl) trivial rfl ?_
 rintro _ _ ⟨b_1, rfl, rfl⟩
 refine WL.quiet (Qt.assign rfl) rfl rfl ?_
 refine WL.nil ?_
 refine WX.next ?_
 refine WC.seq ?_
 refine WC.calm (Calm.then (calm_FQ _ _)) fun hC => ?_
 refine WC.draw (Γq := [blk b_1 49 [.int .i64 x.op, .int .i64 x.sp, .int .i64 x.n, .int .i64 x.arg], blk bm 96 [.slice CA code.length cc, .slice IA inp.length ci, .slice QA q.length cq, .slice MA m.length cm, .slice EA ne ce, .int .i64 ((at_ : Nat) : Int), .bool s.acc, .pointer (some ⟨bs, 0, none⟩), .bool false, .int .i64 0]]) [0, 1, 2, 3, 4, 5, 6, 7, 8] mixed ?_
 refine WA.named (.take 0 rfl (.take 0 rfl (.nil))) fun sl_1 => ?_
 refine WA.tk 0 (by kernel_rfl) rfl hC (Qt.move rfl) trivial rfl sl_1 ?_
 refine WA.tk 1 (by kernel_rfl) rfl hC (Qt.nilCheck rfl) trivial rfl sl_1 ?_
 refine WA.tk 2 (by kernel_rfl) rfl hC (Qt.fieldAddrB tf96_5 rfl) trivial rfl sl_1 ?_
 refine WA.tk 3 (by kernel_rfl) rfl hC (Qt.loadB 1 rfl ta90 rfl rfl) trivial rfl sl_1 ?_
 refine WA.tk 4 (by kernel_rfl) rfl hC (Qt.move rfl) trivial rfl sl_1 ?_
 refine WA.tk 5 (by kernel_rfl) rfl hC (Qt.nilCheck rfl) trivial rfl sl_1 ?_
 refine WA.tk 6 (by kernel_rfl) rfl hC (Qt.fieldAddrB tf96_4 rfl) trivial rfl sl_1 ?_
 refine WA.tk 7 (by kernel_rfl) rfl hC (Qt.loadB 1 rfl ta4 rfl rfl) trivial rfl sl_1 ?_
 refine WA.one 8 (by kernel_rfl) ?_
 refine WO.call rfl (.take 2 rfl (.take 2 rfl (.nil))) (Cl.func cb86 rfl) (stackPushW s.stk _ _ _ _ s.acc hs) trivial rfl (by rintro _ _ ⟨A_1, c_1, mx_1, rfl, rfl⟩; exact ⟨_, (.take 2 rfl (.take 2 rfl (.nil)))⟩) ?_
 rintro _ _ ⟨A_1, c_1, mx_1, rfl, rfl⟩
 refine WA.phase (K' := [0, 1, 2, 3, 4, 5, 6, 7, 8, 9]) (Γq' := [blk bs 129 [.slice A_1 ((s.stk ++ [s.acc]).length) c_1, .int .i64 64, .int .i64 mx_1], row kBool 4 A_1 c_1 (s.stk ++ [s.acc]), blk b_1 49 [.int .i64 x.op, .int .i64 x.sp, .int .i64 x.n, .int .i64 x.arg], blk bm 96 [.slice CA code.length cc, .slice IA inp.length ci, .slice QA q.length cq, .slice MA m.length cm, .slice EA ne ce, .int .i64 ((at_ : Nat) : Int), .bool s.acc, .pointer (some ⟨bs, 0, none⟩), .bool false, .int .i64 0]]) (by kernel_rfl) ?_
 refine WA.named (.take 0 rfl (.take 0 rfl (.take 0 rfl (.take 0 rfl (.nil))))) fun sl_2 => ?_
 refine WA.tk 9 (by kernel_rfl) rfl hC (Qt.assign rfl) trivial rfl sl_2 ?_
 refine WA.done (by kernel_rfl) ?_
 refine WX.next ?_
 refine WC.ret ?_
 refine WX.ret1 (.take 3 rfl (.take 0 rfl (.take 0 rfl (.nil)))) rfl rfl ?_
 exact ⟨_, _, _, rfl, rfl⟩

end Go.Proofs.YtolggjmgfijjfaaGreatDoor.Sep

/- A walk, printed by gen.py out of hints. -/
namespace Go.Proofs.YtolggjmgfijjfaaGreatDoor.Sep
open Go
variable {μ : Prop}
theorem stackPopW (l : List Bool) (A : Option Addr) (c bs : Nat) (mx : Int) (hl : 0 < l.length) : Spec μ Tryz.prog 87 #[.pointer (some ⟨bs, 0, none⟩)] [blk bs 129 [.slice A l.length c, .int .i64 64, .int .i64 mx], row kBool 4 A c l] fun v Δ => ∃ A1, v = .tuple [.bool (l.getD (l.length - 1) false), .int .i64 0].toArray ∧ Δ = [blk bs 129 [.slice A1 (l.take (l.length - 1)).length c, .int .i64 64, .int .i64 mx], row kBool 4 A1 c (l.take (l.length - 1))] := by
 refine Spec.of_body (n := 40) Tryz.func87 rfl rfl rfl fun w0 S0 O0 => ?_
 show WC _ _ _ _ _ _ [(0, .pointer (some ⟨bs, 0, none⟩))] [blk bs 129 [.slice A l.length c, .int .i64 64, .int .i64 mx], row kBool 4 A c l]
 refine WC.learn (Z := Unit) (Δ := fun _ => []) (φ := fun _ => l.length ≤ c ∧ c ≤ 9223372036854775807) 1 rfl (fun S w h => ⟨(), row_bounds h, nofacts⟩) ?_
 rintro _ ⟨hb_1, hb_2⟩
 refine WC.seq ?_
 refine WC.region ?_
 refine WL.quiet (Qt.assign rfl) rfl rfl ?_
 refine WL.quiet (Qt.assign rfl) rfl rfl ?_
 refine WL.nil ?_
 refine WX.next ?_
 refine WC.seq ?_
 refine WC.block ?_
 refine WC.seq ?_
 refine WC.region ?_
 refine WL.quiet (Qt.move rfl) rfl rfl ?_
 refine WL.quiet (Qt.ptrNil Tryz.underlying90 rfl) rfl rfl ?_
 refine WL.quiet (Qt.assign rfl) rfl rfl ?_
 refine WL.nil ?_
 refine WX.next ?_
 refine WC.no rfl ?_
 refine WC.seq ?_
 refine WC.region ?_
 refine WL.quiet (Qt.move rfl) rfl rfl ?_
 refine WL.quiet (Qt.nilCheck rfl) rfl rfl ?_
 refine WL.quiet (Qt.fieldAddrB tf129_0 rfl) rfl rfl ?_
 refine WL.quiet (Qt.loadB 0 rfl ta26 rfl rfl) rfl rfl ?_
 refine WL.quiet (Qt.lenS Tryz.underlying26 rfl) rfl rfl ?_
 refine WL.quiet (Qt.to (Qt.eql rfl rfl) (congrArg Value.bool (decide_eq_false (by omega)))) rfl rfl ?_
 refine WL.quiet (Qt.assign rfl) rfl rfl ?_
 refine WL.nil ?_
 refine WX.next ?_
 refine WC.no rfl ?_
 refine WC.skip ?_
 refine WX.block_end ?_
 refine WX.next ?_
 refine WC.seq ?_
 refine WC.region ?_
 refine WL.quiet (Qt.move rfl) rfl rfl ?_
 refine WL.quiet (Qt.nilCheck rfl) rfl rfl ?_
 refine WL.quiet (Qt.fieldAddrB tf129_0 rfl) rfl rfl ?_
 refine WL.quiet (Qt.loadB 0 rfl ta26 rfl rfl) rfl rfl ?_
 refine WL.quiet (Qt.lenS Tryz.underlying26 rfl) rfl rfl ?_
 refine WL.quiet (Qt.sub rfl rfl (by omega)) rfl rfl ?_
 refine WL.quiet (Qt.assign rfl) rfl rfl ?_
 refine WL.nil ?_
 refine WX.next ?_
 refine WC.seq ?_
 obtain ⟨j, hj⟩ : ∃ j : Nat, j = l.length - 1 := ⟨_, rfl⟩
 rw [show (((l.length : Nat) : Int) - 1) = ((j : Nat) : Int) from by omega]
 refine WC.turn (.take 1 rfl (.nil)) (row_open (hl)) ?_
 rintro _ ⟨b_1, cur_1, rfl, rfl⟩
 refine WC.region ?_
 refine WL.quiet (Qt.move rfl) rfl rfl ?_
 refine WL.quiet (Qt.nilCheck rfl) rfl rfl ?_
 refine WL.quiet (Qt.fieldAddrB tf129_0 rfl) rfl rfl ?_
 refine WL.quiet (Qt.loadB 1 rfl ta26 rfl rfl) rfl rfl ?_
 refine WL.quiet (Qt.move rfl) rfl rfl ?_
 have hj_1 : j < l.length := by omega
 refine WL.learn 0 rfl (rowL_at j hj_1 (vBool _)) ?_
 rintro _ hel_1
 refine WL.quiet (Qt.indexAddrB j Tryz.underlying26 ti4 rfl rfl (by first | assumption | omega)) rfl rfl ?_
 refine WL.quiet (Qt.loadR (j := j) (o := 0) 0 rfl hel_1 ta4 rfl rfl) rfl rfl ?_
 refine WL.quiet (Qt.assign rfl) rfl rfl ?_
 refine WL.nil ?_
 refine WX.next ?_
 refine WC.seq ?_
 refine WC.region ?_
 refine WL.quiet (Qt.move rfl) rfl rfl ?_
 refine WL.quiet (Qt.move rfl) rfl rfl ?_
 refine WL.quiet (Qt.nilCheck rfl) rfl rfl ?_
 refine WL.quiet (Qt.fieldAddrB tf129_0 rfl) rfl rfl ?_
 refine WL.quiet (Qt.loadB 1 rfl ta26 rfl rfl) rfl rfl ?_
 refine WL.quiet (Qt.move rfl) rfl rfl ?_
 refine WL.turn (.take 0 rfl (.nil)) (rowL_take j) ?_
 rintro _ rfl
 refine WL.quiet (Qt.to (Qt.cutHigh Tryz.underlying26 ti4 rfl rfl (by omega)) (show Value.slice (some ⟨b_1, 0, none⟩) j c = Value.slice (some ⟨b_1, 0, none⟩) (l.take j).length c from by rw [show (l.take j).length = j from by rw [List.length_take]; omega])) rfl rfl ?_
 refine WL.quiet (Qt.nilCheck rfl) rfl rfl ?_
 refine WL.quiet (Qt.fieldAddrB tf129_0 rfl) rfl rfl ?_
 refine WL.loud (.take 1 rfl (.nil)) (Ld.store ti26 rfl rfl rfl rfl rfl rfl) trivial rfl ?_
 rintro _ _ rfl
 refine WL.nil ?_
 refine WX.next ?_
 refine WC.seq ?_
 refine WC.region ?_
 refine WL.quiet (Qt.move rfl) rfl rfl ?_
 refine WL.quiet (Qt.assign rfl) rfl rfl ?_
 refine WL.quiet (Qt.assign rfl) rfl rfl ?_
 refine WL.nil ?_
 refine WX.next ?_
 refine WC.ret ?_
 refine WX.turn (.take 1 rfl (.nil)) (row_close) ?_
 rintro _ rfl
 refine WX.ret2 (.take 1 rfl (.take 0 rfl (.nil))) rfl rfl rfl ?_
 subst hj
 exact ⟨_, by rw [List.getD_eq_getElem?_getD, List.getElem?_eq_getElem (by omega)]; rfl, rfl⟩

end Go.Proofs.YtolggjmgfijjfaaGreatDoor.Sep
