/- Texts of this proof, joined: what is of no program, and the walks of its functions -/
import Derived.Test.YtolggjmgfijjfaaGreatDoorCgE
set_option autoImplicit false
set_option linter.unusedVariables false
set_option linter.unusedSimpArgs false
set_option linter.unusedSectionVars false
set_option maxRecDepth 100000
/- A walk, printed by gen.py out of hints. -/
namespace Go.Proofs.YtolggjmgfijjfaaGreatDoor.Sep
open Go
variable {μ : Prop}
theorem popW (code : List Ins) (inp q m : List Bool) (CA IA QA MA EA : Option Addr) (cc ci cq cm ce bm bs at_ ne : Nat) (s : MS) (SA : Option Addr) (cs : Nat) (mx : Int) (x : Ins) (hs : 0 < s.stk.length) : Spec μ Tryz.prog 59 #[.pointer (some ⟨bm, 0, none⟩), .agg [.int .i64 x.op, .int .i64 x.sp, .int .i64 x.n, .int .i64 x.arg].toArray] [blk bm 96 [.slice CA code.length cc, .slice IA inp.length ci, .slice QA q.length cq, .slice MA m.length cm, .slice EA ne ce, .int .i64 ((at_ : Nat) : Int), .bool s.acc, .pointer (some ⟨bs, 0, none⟩), .bool false, .int .i64 0], blk bs 129 [.slice SA s.stk.length cs, .int .i64 64, .int .i64 mx], row kBool 4 SA cs s.stk] fun v Δ => ∃ A1, v = .int .i64 0 ∧ Δ = [blk bm 96 [.slice CA code.length cc, .slice IA inp.length ci, .slice QA q.length cq, .slice MA m.length cm, .slice EA ne ce, .int .i64 ((at_ : Nat) : Int), .bool (if x.op = 9 then (s.stk.getD (s.stk.length - 1) false) && s.acc else (s.stk.getD (s.stk.length - 1) false) || s.acc), .pointer (some ⟨bs, 0, none⟩), .bool false, .int .i64 0], blk bs 129 [.slice A1 (s.stk.take (s.stk.length - 1)).length cs, .int .i64 64, .int .i64 mx], row kBool 4 A1 cs (s.stk.take (s.stk.length - 1))] := by
 refine Spec.of_body (n := 41) Tryz.func59 rfl rfl rfl fun w0 S0 O0 => ?_
 show WC _ _ _ _ _ _ [(0, .pointer (some ⟨bm, 0, none⟩)), (1, .agg [.int .i64 x.op, .int .i64 x.sp, .int .i64 x.n, .int .i64 x.arg].toArray)] [blk bm 96 [.slice CA code.length cc, .slice IA inp.length ci, .slice QA q.length cq, .slice MA m.length cm, .slice EA ne ce, .int .i64 ((at_ : Nat) : Int), .bool s.acc, .pointer (some ⟨bs, 0, none⟩), .bool false, .int .i64 0], blk bs 129 [.slice SA s.stk.length cs, .int .i64 64, .int .i64 mx], row kBool 4 SA cs s.stk]
 refine WC.seq ?_
 refine WC.region ?_
 refine WL.loud (.nil) (Ld.box rfl rfl) trivial rfl ?_
 rintro _ _ ⟨b_1, rfl, rfl⟩
 refine WL.quiet (Qt.assign rfl) rfl rfl ?_
 refine WL.nil ?_
 refine WX.next ?_
 refine WC.seq ?_
 refine WC.region ?_
 refine WL.quiet (Qt.move rfl) rfl rfl ?_
 refine WL.quiet (Qt.nilCheck rfl) rfl rfl ?_
 refine WL.quiet (Qt.fieldAddrB tf96_5 rfl) rfl rfl ?_
 refine WL.quiet (Qt.loadB 1 rfl ta90 rfl rfl) rfl rfl ?_
 refine WL.call (.take 2 rfl (.take 2 rfl (.nil))) (Cl.func cb87 rfl) (stackPopW s.stk _ _ _ _ hs) trivial rfl ?_
 rintro _ _ ⟨A_1, rfl, rfl⟩
 refine WL.quiet (Qt.move rfl) rfl rfl ?_
 refine WL.quiet (Qt.extract rfl rfl) rfl rfl ?_
 refine WL.quiet (Qt.extract rfl rfl) rfl rfl ?_
 refine WL.quiet (Qt.assign rfl) rfl rfl ?_
 refine WL.quiet (Qt.assign rfl) rfl rfl ?_
 refine WL.nil ?_
 refine WX.next ?_
 refine WC.seq ?_
 refine WC.seq ?_
 refine WC.region ?_
 refine WL.quiet (Qt.move rfl) rfl rfl ?_
 refine WL.quiet (Qt.neq rfl rfl) rfl rfl ?_
 refine WL.nil ?_
 refine WX.next ?_
 refine WC.no rfl ?_
 refine WC.skip ?_
 refine WX.next ?_
 refine WC.seq ?_
 refine WC.seq ?_
 refine WC.region ?_
 refine WL.quiet (Qt.fieldAddrB tf49_0 rfl) rfl rfl ?_
 refine WL.quiet (Qt.loadB 2 rfl ta3 rfl rfl) rfl rfl ?_
 refine WL.quiet (Qt.eql rfl rfl) rfl rfl ?_
 refine WL.nil ?_
 refine WX.next ?_
 refine WC.condD rfl (fun hc_1 => ?_) (fun hc_1 => ?_)
 ·
  refine WC.region ?_
  refine WL.quiet (Qt.move rfl) rfl rfl ?_
  refine WL.quiet (Qt.move rfl) rfl rfl ?_
  refine WL.quiet (Qt.move rfl) rfl rfl ?_
  refine WL.splitB 23 rfl rfl (fun hg_1 => ?_) (fun hg_1 => ?_)
  ·
   refine WL.quietG 2 true rfl 23 rfl rfl (Qt.move rfl) rfl ?_
   refine WL.quietG 2 true rfl 23 rfl rfl (Qt.nilCheck rfl) rfl ?_
   refine WL.quietG 2 true rfl 23 rfl rfl (Qt.fieldAddrB tf96_4 rfl) rfl ?_
   refine WL.quietG 2 true rfl 23 rfl rfl (Qt.loadB 3 rfl ta4 rfl rfl) rfl ?_
   refine WL.quiet (Qt.pickT rfl rfl) rfl rfl ?_
   refine WL.quiet (Qt.nilCheck rfl) rfl rfl ?_
   refine WL.quiet (Qt.fieldAddrB tf96_4 rfl) rfl rfl ?_
   refine WL.loud (.take 3 rfl (.nil)) (Ld.store ti4 rfl rfl rfl rfl rfl rfl) trivial rfl ?_
   rintro _ _ rfl
   refine WL.nil ?_
   refine WX.next ?_
   refine WC.seq ?_
   refine WC.region ?_
   refine WL.quiet (Qt.assign rfl) rfl rfl ?_
   refine WL.nil ?_
   refine WX.next ?_
   refine WC.ret ?_
   refine WX.ret1 (.take 0 rfl (.take 0 rfl (.take 0 rfl (.nil)))) rfl rfl ?_
   refine ⟨A_1, rfl, ?_⟩
   first | rw [if_pos hc_1] | rw [if_neg hc_1]
   simp only [hg_1, Bool.true_and, Bool.false_and, Bool.true_or, Bool.false_or]
  ·
   refine WL.skipG 2 true false rfl 23 rfl rfl rfl rfl ?_
   refine WL.skipG 2 true false rfl 23 rfl rfl rfl rfl ?_
   refine WL.skipG 2 true false rfl 23 rfl rfl rfl rfl ?_
   refine WL.skipG 2 true false rfl 23 rfl rfl rfl rfl ?_
   refine WL.quiet (Qt.pickF rfl rfl) rfl rfl ?_
   refine WL.quiet (Qt.nilCheck rfl) rfl rfl ?_
   refine WL.quiet (Qt.fieldAddrB tf96_4 rfl) rfl rfl ?_
   refine WL.loud (.take 3 rfl (.nil)) (Ld.store ti4 rfl rfl rfl rfl rfl rfl) trivial rfl ?_
   rintro _ _ rfl
   refine WL.nil ?_
   refine WX.next ?_
   refine WC.seq ?_
   refine WC.region ?_
   refine WL.quiet (Qt.assign rfl) rfl rfl ?_
   refine WL.nil ?_
   refine WX.next ?_
   refine WC.ret ?_
   refine WX.ret1 (.take 0 rfl (.take 0 rfl (.take 0 rfl (.nil)))) rfl rfl ?_
   refine ⟨A_1, rfl, ?_⟩
   first | rw [if_pos hc_1] | rw [if_neg hc_1]
   simp only [hg_1, Bool.true_and, Bool.false_and, Bool.true_or, Bool.false_or]
 ·
  refine WC.region ?_
  refine WL.quiet (Qt.move rfl) rfl rfl ?_
  refine WL.quiet (Qt.move rfl) rfl rfl ?_
  refine WL.quiet (Qt.move rfl) rfl rfl ?_
  refine WL.splitB 33 rfl rfl (fun hg_2 => ?_) (fun hg_2 => ?_)
  ·
   refine WL.skipG 2 false true rfl 33 rfl rfl rfl rfl ?_
   refine WL.skipG 2 false true rfl 33 rfl rfl rfl rfl ?_
   refine WL.skipG 2 false true rfl 33 rfl rfl rfl rfl ?_
   refine WL.skipG 2 false true rfl 33 rfl rfl rfl rfl ?_
   refine WL.quiet (Qt.pickT rfl rfl) rfl rfl ?_
   refine WL.quiet (Qt.nilCheck rfl) rfl rfl ?_
   refine WL.quiet (Qt.fieldAddrB tf96_4 rfl) rfl rfl ?_
   refine WL.loud (.take 3 rfl (.nil)) (Ld.store ti4 rfl rfl rfl rfl rfl rfl) trivial rfl ?_
   rintro _ _ rfl
   refine WL.nil ?_
   refine WX.next ?_
   refine WC.seq ?_
   refine WC.region ?_
   refine WL.quiet (Qt.assign rfl) rfl rfl ?_
   refine WL.nil ?_
   refine WX.next ?_
   refine WC.ret ?_
   refine WX.ret1 (.take 0 rfl (.take 0 rfl (.take 0 rfl (.nil)))) rfl rfl ?_
   refine ⟨A_1, rfl, ?_⟩
   first | rw [if_pos hc_1] | rw [if_neg hc_1]
   simp only [hg_2, Bool.true_and, Bool.false_and, Bool.true_or, Bool.false_or]
  ·
   refine WL.quietG 2 false rfl 33 rfl rfl (Qt.move rfl) rfl ?_
   refine WL.quietG 2 false rfl 33 rfl rfl (Qt.nilCheck rfl) rfl ?_
   refine WL.quietG 2 false rfl 33 rfl rfl (Qt.fieldAddrB tf96_4 rfl) rfl ?_
   refine WL.quietG 2 false rfl 33 rfl rfl (Qt.loadB 3 rfl ta4 rfl rfl) rfl ?_
   refine WL.quiet (Qt.pickF rfl rfl) rfl rfl ?_
   refine WL.quiet (Qt.nilCheck rfl) rfl rfl ?_
   refine WL.quiet (Qt.fieldAddrB tf96_4 rfl) rfl rfl ?_
   refine WL.loud (.take 3 rfl (.nil)) (Ld.store ti4 rfl rfl rfl rfl rfl rfl) trivial rfl ?_
   rintro _ _ rfl
   refine WL.nil ?_
   refine WX.next ?_
   refine WC.seq ?_
   refine WC.region ?_
   refine WL.quiet (Qt.assign rfl) rfl rfl ?_
   refine WL.nil ?_
   refine WX.next ?_
   refine WC.ret ?_
   refine WX.ret1 (.take 0 rfl (.take 0 rfl (.take 0 rfl (.nil)))) rfl rfl ?_
   refine ⟨A_1, rfl, ?_⟩
   first | rw [if_pos hc_1] | rw [if_neg hc_1]
   simp only [hg_2, Bool.true_and, Bool.false_and, Bool.true_or, Bool.false_or]

end Go.Proofs.YtolggjmgfijjfaaGreatDoor.Sep

/- A walk, printed by gen.py out of hints. -/
namespace Go.Proofs.YtolggjmgfijjfaaGreatDoor.Sep
open Go
variable {μ : Prop}
theorem doesW (bm : Nat)  : Spec μ Tryz.prog 36 #[.pointer (some ⟨bm, 0, none⟩)] [] fun v Δ => ∃ b, v = .map (some b) ∧ Δ = [mp intKey (fnV bm) b ([(0, 56), (1, 56), (2, 56), (3, 56), (4, 56), (5, 56), (6, 57), (7, 57), (8, 58), (9, 59), (10, 59), (11, 60), (12, 60), (13, 60), (14, 60), (15, 61), (16, 62)] : List (Int × Nat))] := by
 refine Spec.of_body (n := 39) Tryz.func36 rfl rfl rfl fun w0 S0 O0 => ?_
 show WC _ _ _ _ _ _ [(0, .pointer (some ⟨bm, 0, none⟩))] []
 refine WC.seq ?_
 refine WC.region ?_
 refine WL.quiet (Qt.assign rfl) rfl rfl ?_
 refine WL.nil ?_
 refine WX.next ?_
 refine WC.seq ?_
 refine WC.region ?_
 refine WL.loud (.nil) (Ld.makeMap (E := intKey) (V := fnV bm)) trivial rfl ?_
 rintro _ _ ⟨b_1, rfl, rfl⟩
 refine WL.quiet (Qt.move rfl) rfl rfl ?_
 refine WL.quiet (Qt.makeFuncR rfl) rfl rfl ?_
 refine WL.loud (.take 0 rfl (.nil)) (Ld.insert Tryz.underlying99 Tryz.underlying3 rfl rfl rfl) trivial rfl ?_
 rintro _ _ rfl
 refine WL.quiet (Qt.move rfl) rfl rfl ?_
 refine WL.quiet (Qt.makeFuncR rfl) rfl rfl ?_
 refine WL.loud (.take 0 rfl (.nil)) (Ld.insert Tryz.underlying99 Tryz.underlying3 rfl rfl rfl) trivial rfl ?_
 rintro _ _ rfl
 refine WL.quiet (Qt.move rfl) rfl rfl ?_
 refine WL.quiet (Qt.makeFuncR rfl) rfl rfl ?_
 refine WL.loud (.take 0 rfl (.nil)) (Ld.insert Tryz.underlying99 Tryz.underlying3 rfl rfl rfl) trivial rfl ?_
 rintro _ _ rfl
 refine WL.quiet (Qt.move rfl) rfl rfl ?_
 refine WL.quiet (Qt.makeFuncR rfl) rfl rfl ?_
 refine WL.loud (.take 0 rfl (.nil)) (Ld.insert Tryz.underlying99 Tryz.underlying3 rfl rfl rfl) trivial rfl ?_
 rintro _ _ rfl
 refine WL.quiet (Qt.move rfl) rfl rfl ?_
 refine WL.quiet (Qt.makeFuncR rfl) rfl rfl ?_
 refine WL.loud (.take 0 rfl (.nil)) (Ld.insert Tryz.underlying99 Tryz.underlying3 rfl rfl rfl) trivial rfl ?_
 rintro _ _ rfl
 refine WL.quiet (Qt.move rfl) rfl rfl ?_
 refine WL.quiet (Qt.makeFuncR rfl) rfl rfl ?_
 refine WL.loud (.take 0 rfl (.nil)) (Ld.insert Tryz.underlying99 Tryz.underlying3 rfl rfl rfl) trivial rfl ?_
 rintro _ _ rfl
 refine WL.quiet (Qt.move rfl) rfl rfl ?_
 refine WL.quiet (Qt.makeFuncR rfl) rfl rfl ?_
 refine WL.loud (.take 0 rfl (.nil)) (Ld.insert Tryz.underlying99 Tryz.underlying3 rfl rfl rfl) trivial rfl ?_
 rintro _ _ rfl
 refine WL.quiet (Qt.move rfl) rfl rfl ?_
 refine WL.quiet (Qt.makeFuncR rfl) rfl rfl ?_
 refine WL.loud (.take 0 rfl (.nil)) (Ld.insert Tryz.underlying99 Tryz.underlying3 rfl rfl rfl) trivial rfl ?_
 rintro _ _ rfl
 refine WL.quiet (Qt.move rfl) rfl rfl ?_
 refine WL.quiet (Qt.makeFuncR rfl) rfl rfl ?_
 refine WL.loud (.take 0 rfl (.nil)) (Ld.insert Tryz.underlying99 Tryz.underlying3 rfl rfl rfl) trivial rfl ?_
 rintro _ _ rfl
 refine WL.quiet (Qt.move rfl) rfl rfl ?_
 refine WL.quiet (Qt.makeFuncR rfl) rfl rfl ?_
 refine WL.loud (.take 0 rfl (.nil)) (Ld.insert Tryz.underlying99 Tryz.underlying3 rfl rfl rfl) trivial rfl ?_
 rintro _ _ rfl
 refine WL.quiet (Qt.move rfl) rfl rfl ?_
 refine WL.quiet (Qt.makeFuncR rfl) rfl rfl ?_
 refine WL.loud (.take 0 rfl (.nil)) (Ld.insert Tryz.underlying99 Tryz.underlying3 rfl rfl rfl) trivial rfl ?_
 rintro _ _ rfl
 refine WL.quiet (Qt.move rfl) rfl rfl ?_
 refine WL.quiet (Qt.makeFuncR rfl) rfl rfl ?_
 refine WL.loud (.take 0 rfl (.nil)) (Ld.insert Tryz.underlying99 Tryz.underlying3 rfl rfl rfl) trivial rfl ?_
 rintro _ _ rfl
 refine WL.quiet (Qt.move rfl) rfl rfl ?_
 refine WL.quiet (Qt.makeFuncR rfl) rfl rfl ?_
 refine WL.loud (.take 0 rfl (.nil)) (Ld.insert Tryz.underlying99 Tryz.underlying3 rfl rfl rfl) trivial rfl ?_
 rintro _ _ rfl
 refine WL.quiet (Qt.move rfl) rfl rfl ?_
 refine WL.quiet (Qt.makeFuncR rfl) rfl rfl ?_
 refine WL.loud (.take 0 rfl (.nil)) (Ld.insert Tryz.underlying99 Tryz.underlying3 rfl rfl rfl) trivial rfl ?_
 rintro _ _ rfl
 refine WL.quiet (Qt.move rfl) rfl rfl ?_
 refine WL.quiet (Qt.makeFuncR rfl) rfl rfl ?_
 refine WL.loud (.take 0 rfl (.nil)) (Ld.insert Tryz.underlying99 Tryz.underlying3 rfl rfl rfl) trivial rfl ?_
 rintro _ _ rfl
 refine WL.quiet (Qt.move rfl) rfl rfl ?_
 refine WL.quiet (Qt.makeFuncR rfl) rfl rfl ?_
 refine WL.loud (.take 0 rfl (.nil)) (Ld.insert Tryz.underlying99 Tryz.underlying3 rfl rfl rfl) trivial rfl ?_
 rintro _ _ rfl
 refine WL.quiet (Qt.move rfl) rfl rfl ?_
 refine WL.quiet (Qt.makeFuncR rfl) rfl rfl ?_
 refine WL.loud (.take 0 rfl (.nil)) (Ld.insert Tryz.underlying99 Tryz.underlying3 rfl rfl rfl) trivial rfl ?_
 rintro _ _ rfl
 refine WL.quiet (Qt.move rfl) rfl rfl ?_
 refine WL.quiet (Qt.assign rfl) rfl rfl ?_
 refine WL.nil ?_
 refine WX.next ?_
 refine WC.ret ?_
 refine WX.ret1 (.take 0 rfl (.nil)) rfl rfl ?_
 exact ⟨_, rfl, rfl⟩

end Go.Proofs.YtolggjmgfijjfaaGreatDoor.Sep

/- A walk, printed by gen.py out of hints. -/
namespace Go.Proofs.YtolggjmgfijjfaaGreatDoor.Sep
open Go
variable {μ : Prop}
theorem stepW (code : List Ins) (inp q m : List Bool) (CA IA QA MA EA : Option Addr) (cc ci cq cm ce bm bs at_ : Nat) (s s1 : MS) (SA : Option Addr) (cs : Nat) (mx : Int) (hcl : code.length ≤ 1000000) (hat : at_ < code.length) (hx : (Bits.mk inp q m).exec code[at_] s = some s1) : Spec μ Tryz.prog 11 #[.pointer (some ⟨bm, 0, none⟩)] [blk bm 96 [.slice CA code.length cc, .slice IA inp.length ci, .slice QA q.length cq, .slice MA m.length cm, .slice EA s.E.length ce, .int .i64 ((at_ : Nat) : Int), .bool s.acc, .pointer (some ⟨bs, 0, none⟩), .bool false, .int .i64 0], rd kIns CA cc code, rd kBool IA ci inp, rd kBool QA cq q, rd kBool MA cm m, row kBool 4 EA ce s.E, blk bs 129 [.slice SA s.stk.length cs, .int .i64 64, .int .i64 mx], row kBool 4 SA cs s.stk] fun v Δ => ∃ EA1 ce1 A1 c1 mx1, v = .tuple [.bool true, .int .i64 0].toArray ∧ Δ = [blk bm 96 [.slice CA code.length cc, .slice IA inp.length ci, .slice QA q.length cq, .slice MA m.length cm, .slice EA1 s1.E.length ce1, .int .i64 (((at_ : Nat) : Int) + 1), .bool s1.acc, .pointer (some ⟨bs, 0, none⟩), .bool false, .int .i64 0], row kBool 4 EA1 ce1 s1.E, blk bs 129 [.slice A1 s1.stk.length c1, .int .i64 64, .int .i64 mx1], row kBool 4 A1 c1 s1.stk] := by
 refine Spec.of_body (n := 85) Tryz.func11 rfl rfl rfl fun w0 S0 O0 => ?_
 show WC _ _ _ _ _ _ [(0, .pointer (some ⟨bm, 0, none⟩))] [blk bm 96 [.slice CA code.length cc, .slice IA inp.length ci, .slice QA q.length cq, .slice MA m.length cm, .slice EA s.E.length ce, .int .i64 ((at_ : Nat) : Int), .bool s.acc, .pointer (some ⟨bs, 0, none⟩), .bool false, .int .i64 0], rd kIns CA cc code, rd kBool IA ci inp, rd kBool QA cq q, rd kBool MA cm m, row kBool 4 EA ce s.E, blk bs 129 [.slice SA s.stk.length cs, .int .i64 64, .int .i64 mx], row kBool 4 SA cs s.stk]
 refine WC.learn (Z := Unit) (Δ := fun _ => []) (φ := fun _ => code.length ≤ cc ∧ cc ≤ 9223372036854775807) 1 rfl (fun S w h => ⟨(), rd_bounds h, nofacts⟩) ?_
 rintro _ ⟨hb_1, hb_2⟩
 refine WC.seq ?_
 refine WC.region ?_
 refine WL.quiet (Qt.assign rfl) rfl rfl ?_
 refine WL.quiet (Qt.assign rfl) rfl rfl ?_
 refine WL.nil ?_
 refine WX.next ?_
 refine WC.seq ?_
 refine WC.block ?_
 refine WC.seq ?_
 refine WC.region ?_
 refine WL.quiet (Qt.move rfl) rfl rfl ?_
 refine WL.quiet (Qt.ptrNil Tryz.underlying44 rfl) rfl rfl ?_
 refine WL.quiet (Qt.assign rfl) rfl rfl ?_
 refine WL.nil ?_
 refine WX.next ?_
 refine WC.no rfl ?_
 refine WC.seq ?_
 refine WC.region ?_
 refine WL.quiet (Qt.move rfl) rfl rfl ?_
 refine WL.quiet (Qt.nilCheck rfl) rfl rfl ?_
 refine WL.quiet (Qt.fieldAddrB tf96_6 rfl) rfl rfl ?_
 refine WL.quiet (Qt.loadB 0 rfl ta4 rfl rfl) rfl rfl ?_
 refine WL.quiet (Qt.assign rfl) rfl rfl ?_
 refine WL.nil ?_
 refine WX.next ?_
 refine WC.no rfl ?_
 refine WC.seq ?_
 refine WC.calm (Calm.then (Calm.inBlock (Calm.then (calm_FQ _ _)))) fun hC => ?_
 refine WC.draw (Γq := [blk bm 96 [.slice CA code.length cc, .slice IA inp.length ci, .slice QA q.length cq, .slice MA m.length cm, .slice EA s.E.length ce, .int .i64 ((at_ : Nat) : Int), .bool s.acc, .pointer (some ⟨bs, 0, none⟩), .bool false, .int .i64 0], rd kIns CA cc code, rd kBool IA ci inp, rd kBool QA cq q, rd kBool MA cm m, row kBool 4 EA ce s.E, blk bs 129 [.slice SA s.stk.length cs, .int .i64 64, .int .i64 mx], row kBool 4 SA cs s.stk]) [0, 1, 2, 3, 4, 5, 6, 7, 8, 9, 10] mixed ?_
 refine WA.named (.take 0 rfl (.u 0 rfl (.u 1 rfl (.u 2 rfl (.u 3 rfl (.take 4 rfl (.take 4 rfl (.take 4 rfl (.nil))))))))) fun sl_1 => ?_
 refine WA.tk 0 (by kernel_rfl) rfl hC (Qt.move rfl) trivial rfl sl_1 ?_
 refine WA.tk 1 (by kernel_rfl) rfl hC (Qt.nilCheck rfl) trivial rfl sl_1 ?_
 refine WA.tk 2 (by kernel_rfl) rfl hC (Qt.fieldAddrB tf96_3 rfl) trivial rfl sl_1 ?_
 refine WA.tk 3 (by kernel_rfl) rfl hC (Qt.loadB 0 rfl ta3 rfl rfl) trivial rfl sl_1 ?_
 refine WA.tk 4 (by kernel_rfl) rfl hC (Qt.move rfl) trivial rfl sl_1 ?_
 refine WA.tk 5 (by kernel_rfl) rfl hC (Qt.nilCheck rfl) trivial rfl sl_1 ?_
 refine WA.tk 6 (by kernel_rfl) rfl hC (Qt.fieldAddrB tf96_0 rfl) trivial rfl sl_1 ?_
 refine WA.tk 7 (by kernel_rfl) rfl hC (Qt.loadB 0 rfl ta39 rfl rfl) trivial rfl sl_1 ?_
 refine WA.tk 8 (by kernel_rfl) rfl hC (Qt.lenS Tryz.underlying39 rfl) trivial rfl sl_1 ?_
 refine WA.tk 9 (by kernel_rfl) rfl hC (Qt.to (Qt.geq rfl rfl) (congrArg Value.bool (decide_eq_false (by omega)))) trivial rfl sl_1 ?_
 refine WA.tk 10 (by kernel_rfl) rfl hC (Qt.assign rfl) trivial rfl sl_1 ?_
 refine WA.done (by kernel_rfl) ?_
 refine WX.next ?_
 refine WC.no rfl ?_
 refine WC.skip ?_
 refine WX.block_end ?_
 refine WX.next ?_
 refine WC.seq ?_
 have hj_1 : at_ < code.length := by omega
 refine WC.learn 1 rfl (rd_at at_ hj_1 (vIns _)) ?_
 rintro ⟨p_1, ⟨⟩⟩ hA_1
 refine WC.calm (Calm.then (calm_FQ _ _)) fun hC => ?_
 refine WC.draw (Γq := [cellsAt (p_1.add (at_ * 4)) [.int .i64 (code[at_].op), .int .i64 (code[at_].sp), .int .i64 (code[at_].n), .int .i64 (code[at_].arg)], blk bm 96 [.slice CA code.length cc, .slice IA inp.length ci, .slice QA q.length cq, .slice MA m.length cm, .slice EA s.E.length ce, .int .i64 ((at_ : Nat) : Int), .bool s.acc, .pointer (some ⟨bs, 0, none⟩), .bool false, .int .i64 0], rd kIns CA cc code, rd kBool IA ci inp, rd kBool QA cq q, rd kBool MA cm m, row kBool 4 EA ce s.E, blk bs 129 [.slice SA s.stk.length cs, .int .i64 64, .int .i64 mx], row kBool 4 SA cs s.stk]) [0, 1, 2, 3, 4, 5, 6, 7, 8, 9, 10] mixed ?_
 refine WA.named (.u 0 rfl (.take 1 rfl (.u 1 rfl (.u 2 rfl (.u 3 rfl (.u 4 rfl (.take 5 rfl (.take 5 rfl (.take 5 rfl (.nil)))))))))) fun sl_2 => ?_
 refine WA.tk 0 (by kernel_rfl) rfl hC (Qt.move rfl) trivial rfl sl_2 ?_
 refine WA.tk 1 (by kernel_rfl) rfl hC (Qt.nilCheck rfl) trivial rfl sl_2 ?_
 refine WA.tk 2 (by kernel_rfl) rfl hC (Qt.fieldAddrB tf96_0 rfl) trivial rfl sl_2 ?_
 refine WA.tk 3 (by kernel_rfl) rfl hC (Qt.loadB 1 rfl ta39 rfl rfl) trivial rfl sl_2 ?_
 refine WA.tk 4 (by kernel_rfl) rfl hC (Qt.move rfl) trivial rfl sl_2 ?_
 refine WA.tk 5 (by kernel_rfl) rfl hC (Qt.nilCheck rfl) trivial rfl sl_2 ?_
 refine WA.tk 6 (by kernel_rfl) rfl hC (Qt.fieldAddrB tf96_3 rfl) trivial rfl sl_2 ?_
 refine WA.tk 7 (by kernel_rfl) rfl hC (Qt.loadB 1 rfl ta3 rfl rfl) trivial rfl sl_2 ?_
 refine WA.tk 8 (by kernel_rfl) rfl hC (Qt.indexAddrE at_ hA_1 Tryz.underlying39 ti49 rfl rfl (by first | assumption | omega)) trivial rfl sl_2 ?_
 refine WA.tk 9 (by kernel_rfl) rfl hC (Qt.loadCA (p := p_1.add (at_ * 4)) (o := 0) 0 rfl ta49 ti49 rfl rfl) trivial rfl sl_2 ?_
 refine WA.one 10 (by kernel_rfl) ?_
 refine WO.loud rfl (.nil) (Ld.alloc ti49 rfl) trivial rfl (by rintro _ _ ⟨b_1, rfl, rfl⟩; exact ⟨_, (.u 1 rfl (.take 2 rfl (.u 2 rfl (.u 3 rfl (.u 4 rfl (.u 5 rfl (.take 6 rfl (.take 6 rfl (.take 6 rfl (.nil))))))))))⟩) ?_
 rintro _ _ ⟨b_1, rfl, rfl⟩
 refine WA.phase (K' := [0, 1, 2, 3, 4, 5, 6, 7, 8, 9, 10, 11]) (Γq' := [cellsAt (p_1.add (at_ * 4)) [.int .i64 (code[at_].op), .int .i64 (code[at_].sp), .int .i64 (code[at_].n), .int .i64 (code[at_].arg)], blk bm 96 [.slice CA code.length cc, .slice IA inp.length ci, .slice QA q.length cq, .slice MA m.length cm, .slice EA s.E.length ce, .int .i64 ((at_ : Nat) : Int), .bool s.acc, .pointer (some ⟨bs, 0, none⟩), .bool false, .int .i64 0], rd kIns CA cc code, rd kBool IA ci inp, rd kBool QA cq q, rd kBool MA cm m, row kBool 4 EA ce s.E, blk bs 129 [.slice SA s.stk.length cs, .int .i64 64, .int .i64 mx], row kBool 4 SA cs s.stk]) (by kernel_rfl) ?_
 refine WA.one 11 (by kernel_rfl) ?_
 refine WO.loud rfl (.take 0 rfl (.nil)) (Ld.store ti49 rfl rfl rfl rfl rfl rfl) trivial rfl (by rintro _ _ rfl; exact ⟨_, (.u 1 rfl (.take 2 rfl (.u 2 rfl (.u 3 rfl (.u 4 rfl (.u 5 rfl (.take 6 rfl (.take 6 rfl (.take 6 rfl (.nil))))))))))⟩) ?_
 rintro _ _ rfl
 refine WA.done (by kernel_rfl) ?_
 refine WX.next ?_
 rcases exec_inv hx with ⟨hop, hr, rfl⟩ | ⟨hop, hr, harg, rfl⟩ | ⟨hop, hlt, rfl⟩ | ⟨hop, hlt, rfl⟩
 ·
  refine WC.seq ?_
  refine WC.calm (Calm.then (calm_FQ _ _)) fun hC => ?_
  refine WC.draw (Γq := [blk b_1 49 [.int .i64 (code[at_].op), .int .i64 (code[at_].sp), .int .i64 (code[at_].n), .int .i64 (code[at_].arg)], cellsAt (p_1.add (at_ * 4)) [.int .i64 (code[at_].op), .int .i64 (code[at_].sp), .int .i64 (code[at_].n), .int .i64 (code[at_].arg)], blk bm 96 [.slice CA code.length cc, .slice IA inp.length ci, .slice QA q.length cq, .slice MA m.length cm, .slice EA s.E.length ce, .int .i64 ((at_ : Nat) : Int), .bool s.acc, .pointer (some ⟨bs, 0, none⟩), .bool false, .int .i64 0], rd kIns CA cc code, rd kBool IA ci inp, rd kBool QA cq q, rd kBool MA cm m, row kBool 4 EA ce s.E, blk bs 129 [.slice SA s.stk.length cs, .int .i64 64, .int .i64 mx], row kBool 4 SA cs s.stk]) [0, 1, 2, 3, 4, 5, 6, 7, 8] mixed ?_
  refine WA.named (.take 0 rfl (.u 0 rfl (.take 1 rfl (.u 1 rfl (.u 2 rfl (.u 3 rfl (.u 4 rfl (.take 5 rfl (.take 5 rfl (.take 5 rfl (.nil))))))))))) fun sl_3 => ?_
  refine WA.tk 0 (by kernel_rfl) rfl hC (Qt.move rfl) trivial rfl sl_3 ?_
  refine WA.tk 2 (by kernel_rfl) rfl hC (Qt.fieldAddrB tf49_0 rfl) trivial rfl sl_3 ?_
  refine WA.tk 3 (by kernel_rfl) rfl hC (Qt.loadB 0 rfl ta3 rfl rfl) trivial rfl sl_3 ?_
  refine WA.one 1 (by kernel_rfl) ?_
  refine WO.call rfl (.nil) (Cl.func cb36 rfl) (doesW bm) trivial rfl (by rintro _ _ ⟨b_2, rfl, rfl⟩; exact ⟨_, (.take 1 rfl (.u 1 rfl (.take 2 rfl (.u 2 rfl (.u 3 rfl (.u 4 rfl (.u 5 rfl (.take 6 rfl (.take 6 rfl (.take 6 rfl (.nil)))))))))))⟩) ?_
  rintro _ _ ⟨b_2, rfl, rfl⟩
  refine WA.one 4 (by kernel_rfl) ?_
  refine WO.quiet rfl (Qt.to (Qt.lookupOk (z := .nilFunc) 0 rfl Tryz.underlying99 Tryz.underlying3 ti97 rfl rfl) (disp_val (disp_logic hop))) trivial rfl (.take 1 rfl (.u 1 rfl (.take 2 rfl (.u 2 rfl (.u 3 rfl (.u 4 rfl (.u 5 rfl (.take 6 rfl (.take 6 rfl (.take 6 rfl (.nil))))))))))) ?_
  refine WA.named (.take 1 rfl (.u 1 rfl (.take 2 rfl (.u 2 rfl (.u 3 rfl (.u 4 rfl (.u 5 rfl (.take 6 rfl (.take 6 rfl (.take 6 rfl (.nil))))))))))) fun sl_4 => ?_
  refine WA.tk 5 (by kernel_rfl) rfl hC (Qt.move rfl) trivial rfl sl_4 ?_
  refine WA.tk 6 (by kernel_rfl) rfl hC (Qt.extract rfl rfl) trivial rfl sl_4 ?_
  refine WA.tk 7 (by kernel_rfl) rfl hC (Qt.extract rfl rfl) trivial rfl sl_4 ?_
  refine WA.tk 8 (by kernel_rfl) rfl hC (Qt.assign rfl) trivial rfl sl_4 ?_
  refine WA.phase (K' := [0, 1, 2, 3, 4, 5, 6, 7, 8, 9]) (Γq' := [mp intKey (fnV bm) b_2 [(0, 56), (1, 56), (2, 56), (3, 56), (4, 56), (5, 56), (6, 57), (7, 57), (8, 58), (9, 59), (10, 59), (11, 60), (12, 60), (13, 60), (14, 60), (15, 61), (16, 62)], blk b_1 49 [.int .i64 (code[at_].op), .int .i64 (code[at_].sp), .int .i64 (code[at_].n), .int .i64 (code[at_].arg)], cellsAt (p_1.add (at_ * 4)) [.int .i64 (code[at_].op), .int .i64 (code[at_].sp), .int .i64 (code[at_].n), .int .i64 (code[at_].arg)], blk bm 96 [.slice CA code.length cc, .slice IA inp.length ci, .slice QA q.length cq, .slice MA m.length cm, .slice EA s.E.length ce, .int .i64 ((at_ : Nat) : Int), .bool s.acc, .pointer (some ⟨bs, 0, none⟩), .bool false, .int .i64 0], rd kIns CA cc code, rd kBool IA ci inp, rd kBool QA cq q, rd kBool MA cm m, row kBool 4 EA ce s.E, blk bs 129 [.slice SA s.stk.length cs, .int .i64 64, .int .i64 mx], row kBool 4 SA cs s.stk]) (by kernel_rfl) ?_
  refine WA.named (.take 0 rfl (.take 0 rfl (.u 0 rfl (.take 1 rfl (.u 1 rfl (.u 2 rfl (.u 3 rfl (.u 4 rfl (.take 5 rfl (.take 5 rfl (.take 5 rfl (.nil)))))))))))) fun sl_5 => ?_
  refine WA.tk 9 (by kernel_rfl) rfl hC (Qt.assign rfl) trivial rfl sl_5 ?_
  refine WA.done (by kernel_rfl) ?_
  refine WX.next ?_
  refine WC.seq ?_
  refine WC.region ?_
  refine WL.quiet (Qt.assign rfl) rfl rfl ?_
  refine WL.nil ?_
  refine WX.next ?_
  refine WC.seq ?_
  refine WC.seq ?_
  refine WC.region ?_
  refine WL.quiet (Qt.move rfl) rfl rfl ?_
  refine WL.nil ?_
  refine WX.next ?_
  refine WC.yes rfl ?_
  refine WC.region ?_
  refine WL.quiet (Qt.move rfl) rfl rfl ?_
  refine WL.quiet (Qt.loadBA 1 rfl ta49 ti49 rfl rfl) rfl rfl ?_
  refine WL.call (.take 3 rfl (.u 4 rfl (.u 5 rfl (.u 6 rfl (.nil))))) (Cl.valR cb56 rfl rfl) (logicW code inp q m _ _ _ _ _ _ _ _ _ _ _ _ _ _ _ code[at_] hop hr) trivial rfl ?_
  rintro _ _ ⟨rfl, rfl⟩
  refine WL.quiet (Qt.assign rfl) rfl rfl ?_
  refine WL.nil ?_
  refine WX.next ?_
  refine WC.seq ?_
  refine WC.seq ?_
  refine WC.region ?_
  refine WL.quiet (Qt.move rfl) rfl rfl ?_
  refine WL.quiet (Qt.neq rfl rfl) rfl rfl ?_
  refine WL.nil ?_
  refine WX.next ?_
  refine WC.no rfl ?_
  refine WC.skip ?_
  refine WX.next ?_
  refine WC.seq ?_
  refine WC.region ?_
  refine WL.quiet (Qt.move rfl) rfl rfl ?_
  refine WL.quiet (Qt.nilCheck rfl) rfl rfl ?_
  refine WL.quiet (Qt.fieldAddrB tf96_3 rfl) rfl rfl ?_
  refine WL.quiet (Qt.loadB 0 rfl ta3 rfl rfl) rfl rfl ?_
  refine WL.quiet (Qt.add rfl rfl (by omega)) rfl rfl ?_
  refine WL.quiet (Qt.nilCheck rfl) rfl rfl ?_
  refine WL.quiet (Qt.fieldAddrB tf96_3 rfl) rfl rfl ?_
  refine WL.loud (.take 0 rfl (.nil)) (Ld.store ti3 rfl rfl rfl rfl rfl rfl) trivial rfl ?_
  rintro _ _ rfl
  refine WL.nil ?_
  refine WX.next ?_
  refine WC.seq ?_
  refine WC.region ?_
  refine WL.quiet (Qt.move rfl) rfl rfl ?_
  refine WL.quiet (Qt.nilCheck rfl) rfl rfl ?_
  refine WL.quiet (Qt.fieldAddrB tf96_6 rfl) rfl rfl ?_
  refine WL.quiet (Qt.loadB 0 rfl ta4 rfl rfl) rfl rfl ?_
  refine WL.quiet (Qt.not rfl) rfl rfl ?_
  refine WL.quiet (Qt.assign rfl) rfl rfl ?_
  refine WL.quiet (Qt.assign rfl) rfl rfl ?_
  refine WL.nil ?_
  refine WX.next ?_
  refine WC.ret ?_
  refine WX.ret2 (.take 0 rfl (.take 7 rfl (.take 7 rfl (.take 7 rfl (.nil))))) rfl rfl rfl ?_
  exact ⟨EA, ce, SA, cs, mx, rfl, rfl⟩
 ·
  refine WC.seq ?_
  refine WC.calm (Calm.then (calm_FQ _ _)) fun hC => ?_
  refine WC.draw (Γq := [blk b_1 49 [.int .i64 (code[at_].op), .int .i64 (code[at_].sp), .int .i64 (code[at_].n), .int .i64 (code[at_].arg)], cellsAt (p_1.add (at_ * 4)) [.int .i64 (code[at_].op), .int .i64 (code[at_].sp), .int .i64 (code[at_].n), .int .i64 (code[at_].arg)], blk bm 96 [.slice CA code.length cc, .slice IA inp.length ci, .slice QA q.length cq, .slice MA m.length cm, .slice EA s.E.length ce, .int .i64 ((at_ : Nat) : Int), .bool s.acc, .pointer (some ⟨bs, 0, none⟩), .bool false, .int .i64 0], rd kIns CA cc code, rd kBool IA ci inp, rd kBool QA cq q, rd kBool MA cm m, row kBool 4 EA ce s.E, blk bs 129 [.slice SA s.stk.length cs, .int .i64 64, .int .i64 mx], row kBool 4 SA cs s.stk]) [0, 1, 2, 3, 4, 5, 6, 7, 8] mixed ?_
  refine WA.named (.take 0 rfl (.u 0 rfl (.take 1 rfl (.u 1 rfl (.u 2 rfl (.u 3 rfl (.u 4 rfl (.take 5 rfl (.take 5 rfl (.take 5 rfl (.nil))))))))))) fun sl_6 => ?_
  refine WA.tk 0 (by kernel_rfl) rfl hC (Qt.move rfl) trivial rfl sl_6 ?_
  refine WA.tk 2 (by kernel_rfl) rfl hC (Qt.fieldAddrB tf49_0 rfl) trivial rfl sl_6 ?_
  refine WA.tk 3 (by kernel_rfl) rfl hC (Qt.loadB 0 rfl ta3 rfl rfl) trivial rfl sl_6 ?_
  refine WA.one 1 (by kernel_rfl) ?_
  refine WO.call rfl (.nil) (Cl.func cb36 rfl) (doesW bm) trivial rfl (by rintro _ _ ⟨b_3, rfl, rfl⟩; exact ⟨_, (.take 1 rfl (.u 1 rfl (.take 2 rfl (.u 2 rfl (.u 3 rfl (.u 4 rfl (.u 5 rfl (.take 6 rfl (.take 6 rfl (.take 6 rfl (.nil)))))))))))⟩) ?_
  rintro _ _ ⟨b_3, rfl, rfl⟩
  refine WA.one 4 (by kernel_rfl) ?_
  refine WO.quiet rfl (Qt.to (Qt.lookupOk (z := .nilFunc) 0 rfl Tryz.underlying99 Tryz.underlying3 ti97 rfl rfl) (disp_val (disp_edge hop))) trivial rfl (.take 1 rfl (.u 1 rfl (.take 2 rfl (.u 2 rfl (.u 3 rfl (.u 4 rfl (.u 5 rfl (.take 6 rfl (.take 6 rfl (.take 6 rfl (.nil))))))))))) ?_
  refine WA.named (.take 1 rfl (.u 1 rfl (.take 2 rfl (.u 2 rfl (.u 3 rfl (.u 4 rfl (.u 5 rfl (.take 6 rfl (.take 6 rfl (.take 6 rfl (.nil))))))))))) fun sl_7 => ?_
  refine WA.tk 5 (by kernel_rfl) rfl hC (Qt.move rfl) trivial rfl sl_7 ?_
  refine WA.tk 6 (by kernel_rfl) rfl hC (Qt.extract rfl rfl) trivial rfl sl_7 ?_
  refine WA.tk 7 (by kernel_rfl) rfl hC (Qt.extract rfl rfl) trivial rfl sl_7 ?_
  refine WA.tk 8 (by kernel_rfl) rfl hC (Qt.assign rfl) trivial rfl sl_7 ?_
  refine WA.phase (K' := [0, 1, 2, 3, 4, 5, 6, 7, 8, 9]) (Γq' := [mp intKey (fnV bm) b_3 [(0, 56), (1, 56), (2, 56), (3, 56), (4, 56), (5, 56), (6, 57), (7, 57), (8, 58), (9, 59), (10, 59), (11, 60), (12, 60), (13, 60), (14, 60), (15, 61), (16, 62)], blk b_1 49 [.int .i64 (code[at_].op), .int .i64 (code[at_].sp), .int .i64 (code[at_].n), .int .i64 (code[at_].arg)], cellsAt (p_1.add (at_ * 4)) [.int .i64 (code[at_].op), .int .i64 (code[at_].sp), .int .i64 (code[at_].n), .int .i64 (code[at_].arg)], blk bm 96 [.slice CA code.length cc, .slice IA inp.length ci, .slice QA q.length cq, .slice MA m.length cm, .slice EA s.E.length ce, .int .i64 ((at_ : Nat) : Int), .bool s.acc, .pointer (some ⟨bs, 0, none⟩), .bool false, .int .i64 0], rd kIns CA cc code, rd kBool IA ci inp, rd kBool QA cq q, rd kBool MA cm m, row kBool 4 EA ce s.E, blk bs 129 [.slice SA s.stk.length cs, .int .i64 64, .int .i64 mx], row kBool 4 SA cs s.stk]) (by kernel_rfl) ?_
  refine WA.named (.take 0 rfl (.take 0 rfl (.u 0 rfl (.take 1 rfl (.u 1 rfl (.u 2 rfl (.u 3 rfl (.u 4 rfl (.take 5 rfl (.take 5 rfl (.take 5 rfl (.nil)))))))))))) fun sl_8 => ?_
  refine WA.tk 9 (by kernel_rfl) rfl hC (Qt.assign rfl) trivial rfl sl_8 ?_
  refine WA.done (by kernel_rfl) ?_
  refine WX.next ?_
  refine WC.seq ?_
  refine WC.region ?_
  refine WL.quiet (Qt.assign rfl) rfl rfl ?_
  refine WL.nil ?_
  refine WX.next ?_
  refine WC.seq ?_
  refine WC.seq ?_
  refine WC.region ?_
  refine WL.quiet (Qt.move rfl) rfl rfl ?_
  refine WL.nil ?_
  refine WX.next ?_
  refine WC.yes rfl ?_
  refine WC.region ?_
  refine WL.quiet (Qt.move rfl) rfl rfl ?_
  refine WL.quiet (Qt.loadBA 1 rfl ta49 ti49 rfl rfl) rfl rfl ?_
  refine WL.call (.take 3 rfl (.u 4 rfl (.u 5 rfl (.u 6 rfl (.take 7 rfl (.nil)))))) (Cl.valR cb57 rfl rfl) (edgeW code inp q m _ _ _ _ _ _ _ _ _ _ _ _ _ _ s.E code[at_] hr harg) trivial rfl ?_
  rintro _ _ ⟨A_1, c_1, rfl, rfl⟩
  refine WL.quiet (Qt.assign rfl) rfl rfl ?_
  refine WL.nil ?_
  refine WX.next ?_
  refine WC.seq ?_
  refine WC.seq ?_
  refine WC.region ?_
  refine WL.quiet (Qt.move rfl) rfl rfl ?_
  refine WL.quiet (Qt.neq rfl rfl) rfl rfl ?_
  refine WL.nil ?_
  refine WX.next ?_
  refine WC.no rfl ?_
  refine WC.skip ?_
  refine WX.next ?_
  refine WC.seq ?_
  refine WC.region ?_
  refine WL.quiet (Qt.move rfl) rfl rfl ?_
  refine WL.quiet (Qt.nilCheck rfl) rfl rfl ?_
  refine WL.quiet (Qt.fieldAddrB tf96_3 rfl) rfl rfl ?_
  refine WL.quiet (Qt.loadB 0 rfl ta3 rfl rfl) rfl rfl ?_
  refine WL.quiet (Qt.add rfl rfl (by omega)) rfl rfl ?_
  refine WL.quiet (Qt.nilCheck rfl) rfl rfl ?_
  refine WL.quiet (Qt.fieldAddrB tf96_3 rfl) rfl rfl ?_
  refine WL.loud (.take 0 rfl (.nil)) (Ld.store ti3 rfl rfl rfl rfl rfl rfl) trivial rfl ?_
  rintro _ _ rfl
  refine WL.nil ?_
  refine WX.next ?_
  refine WC.seq ?_
  refine WC.region ?_
  refine WL.quiet (Qt.move rfl) rfl rfl ?_
  refine WL.quiet (Qt.nilCheck rfl) rfl rfl ?_
  refine WL.quiet (Qt.fieldAddrB tf96_6 rfl) rfl rfl ?_
  refine WL.quiet (Qt.loadB 0 rfl ta4 rfl rfl) rfl rfl ?_
  refine WL.quiet (Qt.not rfl) rfl rfl ?_
  refine WL.quiet (Qt.assign rfl) rfl rfl ?_
  refine WL.quiet (Qt.assign rfl) rfl rfl ?_
  refine WL.nil ?_
  refine WX.next ?_
  refine WC.ret ?_
  refine WX.ret2 (.take 0 rfl (.take 0 rfl (.take 7 rfl (.take 7 rfl (.nil))))) rfl rfl rfl ?_
  exact ⟨A_1, c_1, SA, cs, mx, rfl, rfl⟩
 ·
  refine WC.seq ?_
  refine WC.calm (Calm.then (calm_FQ _ _)) fun hC => ?_
  refine WC.draw (Γq := [blk b_1 49 [.int .i64 (code[at_].op), .int .i64 (code[at_].sp), .int .i64 (code[at_].n), .int .i64 (code[at_].arg)], cellsAt (p_1.add (at_ * 4)) [.int .i64 (code[at_].op), .int .i64 (code[at_].sp), .int .i64 (code[at_].n), .int .i64 (code[at_].arg)], blk bm 96 [.slice CA code.length cc, .slice IA inp.length ci, .slice QA q.length cq, .slice MA m.length cm, .slice EA s.E.length ce, .int .i64 ((at_ : Nat) : Int), .bool s.acc, .pointer (some ⟨bs, 0, none⟩), .bool false, .int .i64 0], rd kIns CA cc code, rd kBool IA ci inp, rd kBool QA cq q, rd kBool MA cm m, row kBool 4 EA ce s.E, blk bs 129 [.slice SA s.stk.length cs, .int .i64 64, .int .i64 mx], row kBool 4 SA cs s.stk]) [0, 1, 2, 3, 4, 5, 6, 7, 8] mixed ?_
  refine WA.named (.take 0 rfl (.u 0 rfl (.take 1 rfl (.u 1 rfl (.u 2 rfl (.u 3 rfl (.u 4 rfl (.take 5 rfl (.take 5 rfl (.take 5 rfl (.nil))))))))))) fun sl_9 => ?_
  refine WA.tk 0 (by kernel_rfl) rfl hC (Qt.move rfl) trivial rfl sl_9 ?_
  refine WA.tk 2 (by kernel_rfl) rfl hC (Qt.fieldAddrB tf49_0 rfl) trivial rfl sl_9 ?_
  refine WA.tk 3 (by kernel_rfl) rfl hC (Qt.loadB 0 rfl ta3 rfl rfl) trivial rfl sl_9 ?_
  refine WA.one 1 (by kernel_rfl) ?_
  refine WO.call rfl (.nil) (Cl.func cb36 rfl) (doesW bm) trivial rfl (by rintro _ _ ⟨b_4, rfl, rfl⟩; exact ⟨_, (.take 1 rfl (.u 1 rfl (.take 2 rfl (.u 2 rfl (.u 3 rfl (.u 4 rfl (.u 5 rfl (.take 6 rfl (.take 6 rfl (.take 6 rfl (.nil)))))))))))⟩) ?_
  rintro _ _ ⟨b_4, rfl, rfl⟩
  refine WA.one 4 (by kernel_rfl) ?_
  refine WO.quiet rfl (Qt.to (Qt.lookupOk (z := .nilFunc) 0 rfl Tryz.underlying99 Tryz.underlying3 ti97 rfl rfl) (disp_val (disp_push hop))) trivial rfl (.take 1 rfl (.u 1 rfl (.take 2 rfl (.u 2 rfl (.u 3 rfl (.u 4 rfl (.u 5 rfl (.take 6 rfl (.take 6 rfl (.take 6 rfl (.nil))))))))))) ?_
  refine WA.named (.take 1 rfl (.u 1 rfl (.take 2 rfl (.u 2 rfl (.u 3 rfl (.u 4 rfl (.u 5 rfl (.take 6 rfl (.take 6 rfl (.take 6 rfl (.nil))))))))))) fun sl_10 => ?_
  refine WA.tk 5 (by kernel_rfl) rfl hC (Qt.move rfl) trivial rfl sl_10 ?_
  refine WA.tk 6 (by kernel_rfl) rfl hC (Qt.extract rfl rfl) trivial rfl sl_10 ?_
  refine WA.tk 7 (by kernel_rfl) rfl hC (Qt.extract rfl rfl) trivial rfl sl_10 ?_
  refine WA.tk 8 (by kernel_rfl) rfl hC (Qt.assign rfl) trivial rfl sl_10 ?_
  refine WA.phase (K' := [0, 1, 2, 3, 4, 5, 6, 7, 8, 9]) (Γq' := [mp intKey (fnV bm) b_4 [(0, 56), (1, 56), (2, 56), (3, 56), (4, 56), (5, 56), (6, 57), (7, 57), (8, 58), (9, 59), (10, 59), (11, 60), (12, 60), (13, 60), (14, 60), (15, 61), (16, 62)], blk b_1 49 [.int .i64 (code[at_].op), .int .i64 (code[at_].sp), .int .i64 (code[at_].n), .int .i64 (code[at_].arg)], cellsAt (p_1.add (at_ * 4)) [.int .i64 (code[at_].op), .int .i64 (code[at_].sp), .int .i64 (code[at_].n), .int .i64 (code[at_].arg)], blk bm 96 [.slice CA code.length cc, .slice IA inp.length ci, .slice QA q.length cq, .slice MA m.length cm, .slice EA s.E.length ce, .int .i64 ((at_ : Nat) : Int), .bool s.acc, .pointer (some ⟨bs, 0, none⟩), .bool false, .int .i64 0], rd kIns CA cc code, rd kBool IA ci inp, rd kBool QA cq q, rd kBool MA cm m, row kBool 4 EA ce s.E, blk bs 129 [.slice SA s.stk.length cs, .int .i64 64, .int .i64 mx], row kBool 4 SA cs s.stk]) (by kernel_rfl) ?_
  refine WA.named (.take 0 rfl (.take 0 rfl (.u 0 rfl (.take 1 rfl (.u 1 rfl (.u 2 rfl (.u 3 rfl (.u 4 rfl (.take 5 rfl (.take 5 rfl (.take 5 rfl (.nil)))))))))))) fun sl_11 => ?_
  refine WA.tk 9 (by kernel_rfl) rfl hC (Qt.assign rfl) trivial rfl sl_11 ?_
  refine WA.done (by kernel_rfl) ?_
  refine WX.next ?_
  refine WC.seq ?_
  refine WC.region ?_
  refine WL.quiet (Qt.assign rfl) rfl rfl ?_
  refine WL.nil ?_
  refine WX.next ?_
  refine WC.seq ?_
  refine WC.seq ?_
  refine WC.region ?_
  refine WL.quiet (Qt.move rfl) rfl rfl ?_
  refine WL.nil ?_
  refine WX.next ?_
  refine WC.yes rfl ?_
  refine WC.region ?_
  refine WL.quiet (Qt.move rfl) rfl rfl ?_
  refine WL.quiet (Qt.loadBA 1 rfl ta49 ti49 rfl rfl) rfl rfl ?_
  refine WL.call (.take 3 rfl (.take 8 rfl (.take 8 rfl (.nil)))) (Cl.valR cb58 rfl rfl) (pushW code inp q m _ _ _ _ _ _ _ _ _ _ _ _ _ _ s _ _ _ code[at_] hlt) trivial rfl ?_
  rintro _ _ ⟨A_2, c_2, mx_1, rfl, rfl⟩
  refine WL.quiet (Qt.assign rfl) rfl rfl ?_
  refine WL.nil ?_
  refine WX.next ?_
  refine WC.seq ?_
  refine WC.seq ?_
  refine WC.region ?_
  refine WL.quiet (Qt.move rfl) rfl rfl ?_
  refine WL.quiet (Qt.neq rfl rfl) rfl rfl ?_
  refine WL.nil ?_
  refine WX.next ?_
  refine WC.no rfl ?_
  refine WC.skip ?_
  refine WX.next ?_
  refine WC.seq ?_
  refine WC.region ?_
  refine WL.quiet (Qt.move rfl) rfl rfl ?_
  refine WL.quiet (Qt.nilCheck rfl) rfl rfl ?_
  refine WL.quiet (Qt.fieldAddrB tf96_3 rfl) rfl rfl ?_
  refine WL.quiet (Qt.loadB 0 rfl ta3 rfl rfl) rfl rfl ?_
  refine WL.quiet (Qt.add rfl rfl (by omega)) rfl rfl ?_
  refine WL.quiet (Qt.nilCheck rfl) rfl rfl ?_
  refine WL.quiet (Qt.fieldAddrB tf96_3 rfl) rfl rfl ?_
  refine WL.loud (.take 0 rfl (.nil)) (Ld.store ti3 rfl rfl rfl rfl rfl rfl) trivial rfl ?_
  rintro _ _ rfl
  refine WL.nil ?_
  refine WX.next ?_
  refine WC.seq ?_
  refine WC.region ?_
  refine WL.quiet (Qt.move rfl) rfl rfl ?_
  refine WL.quiet (Qt.nilCheck rfl) rfl rfl ?_
  refine WL.quiet (Qt.fieldAddrB tf96_6 rfl) rfl rfl ?_
  refine WL.quiet (Qt.loadB 0 rfl ta4 rfl rfl) rfl rfl ?_
  refine WL.quiet (Qt.not rfl) rfl rfl ?_
  refine WL.quiet (Qt.assign rfl) rfl rfl ?_
  refine WL.quiet (Qt.assign rfl) rfl rfl ?_
  refine WL.nil ?_
  refine WX.next ?_
  refine WC.ret ?_
  refine WX.ret2 (.take 0 rfl (.take 9 rfl (.take 0 rfl (.take 0 rfl (.nil))))) rfl rfl rfl ?_
  exact ⟨EA, ce, A_2, c_2, mx_1, rfl, rfl⟩
 ·
  refine WC.seq ?_
  refine WC.calm (Calm.then (calm_FQ _ _)) fun hC => ?_
  refine WC.draw (Γq := [blk b_1 49 [.int .i64 (code[at_].op), .int .i64 (code[at_].sp), .int .i64 (code[at_].n), .int .i64 (code[at_].arg)], cellsAt (p_1.add (at_ * 4)) [.int .i64 (code[at_].op), .int .i64 (code[at_].sp), .int .i64 (code[at_].n), .int .i64 (code[at_].arg)], blk bm 96 [.slice CA code.length cc, .slice IA inp.length ci, .slice QA q.length cq, .slice MA m.length cm, .slice EA s.E.length ce, .int .i64 ((at_ : Nat) : Int), .bool s.acc, .pointer (some ⟨bs, 0, none⟩), .bool false, .int .i64 0], rd kIns CA cc code, rd kBool IA ci inp, rd kBool QA cq q, rd kBool MA cm m, row kBool 4 EA ce s.E, blk bs 129 [.slice SA s.stk.length cs, .int .i64 64, .int .i64 mx], row kBool 4 SA cs s.stk]) [0, 1, 2, 3, 4, 5, 6, 7, 8] mixed ?_
  refine WA.named (.take 0 rfl (.u 0 rfl (.take 1 rfl (.u 1 rfl (.u 2 rfl (.u 3 rfl (.u 4 rfl (.take 5 rfl (.take 5 rfl (.take 5 rfl (.nil))))))))))) fun sl_12 => ?_
  refine WA.tk 0 (by kernel_rfl) rfl hC (Qt.move rfl) trivial rfl sl_12 ?_
  refine WA.tk 2 (by kernel_rfl) rfl hC (Qt.fieldAddrB tf49_0 rfl) trivial rfl sl_12 ?_
  refine WA.tk 3 (by kernel_rfl) rfl hC (Qt.loadB 0 rfl ta3 rfl rfl) trivial rfl sl_12 ?_
  refine WA.one 1 (by kernel_rfl) ?_
  refine WO.call rfl (.nil) (Cl.func cb36 rfl) (doesW bm) trivial rfl (by rintro _ _ ⟨b_5, rfl, rfl⟩; exact ⟨_, (.take 1 rfl (.u 1 rfl (.take 2 rfl (.u 2 rfl (.u 3 rfl (.u 4 rfl (.u 5 rfl (.take 6 rfl (.take 6 rfl (.take 6 rfl (.nil)))))))))))⟩) ?_
  rintro _ _ ⟨b_5, rfl, rfl⟩
  refine WA.one 4 (by kernel_rfl) ?_
  refine WO.quiet rfl (Qt.to (Qt.lookupOk (z := .nilFunc) 0 rfl Tryz.underlying99 Tryz.underlying3 ti97 rfl rfl) (disp_val (disp_pop hop))) trivial rfl (.take 1 rfl (.u 1 rfl (.take 2 rfl (.u 2 rfl (.u 3 rfl (.u 4 rfl (.u 5 rfl (.take 6 rfl (.take 6 rfl (.take 6 rfl (.nil))))))))))) ?_
  refine WA.named (.take 1 rfl (.u 1 rfl (.take 2 rfl (.u 2 rfl (.u 3 rfl (.u 4 rfl (.u 5 rfl (.take 6 rfl (.take 6 rfl (.take 6 rfl (.nil))))))))))) fun sl_13 => ?_
  refine WA.tk 5 (by kernel_rfl) rfl hC (Qt.move rfl) trivial rfl sl_13 ?_
  refine WA.tk 6 (by kernel_rfl) rfl hC (Qt.extract rfl rfl) trivial rfl sl_13 ?_
  refine WA.tk 7 (by kernel_rfl) rfl hC (Qt.extract rfl rfl) trivial rfl sl_13 ?_
  refine WA.tk 8 (by kernel_rfl) rfl hC (Qt.assign rfl) trivial rfl sl_13 ?_
  refine WA.phase (K' := [0, 1, 2, 3, 4, 5, 6, 7, 8, 9]) (Γq' := [mp intKey (fnV bm) b_5 [(0, 56), (1, 56), (2, 56), (3, 56), (4, 56), (5, 56), (6, 57), (7, 57), (8, 58), (9, 59), (10, 59), (11, 60), (12, 60), (13, 60), (14, 60), (15, 61), (16, 62)], blk b_1 49 [.int .i64 (code[at_].op), .int .i64 (code[at_].sp), .int .i64 (code[at_].n), .int .i64 (code[at_].arg)], cellsAt (p_1.add (at_ * 4)) [.int .i64 (code[at_].op), .int .i64 (code[at_].sp), .int .i64 (code[at_].n), .int .i64 (code[at_].arg)], blk bm 96 [.slice CA code.length cc, .slice IA inp.length ci, .slice QA q.length cq, .slice MA m.length cm, .slice EA s.E.length ce, .int .i64 ((at_ : Nat) : Int), .bool s.acc, .pointer (some ⟨bs, 0, none⟩), .bool false, .int .i64 0], rd kIns CA cc code, rd kBool IA ci inp, rd kBool QA cq q, rd kBool MA cm m, row kBool 4 EA ce s.E, blk bs 129 [.slice SA s.stk.length cs, .int .i64 64, .int .i64 mx], row kBool 4 SA cs s.stk]) (by kernel_rfl) ?_
  refine WA.named (.take 0 rfl (.take 0 rfl (.u 0 rfl (.take 1 rfl (.u 1 rfl (.u 2 rfl (.u 3 rfl (.u 4 rfl (.take 5 rfl (.take 5 rfl (.take 5 rfl (.nil)))))))))))) fun sl_14 => ?_
  refine WA.tk 9 (by kernel_rfl) rfl hC (Qt.assign rfl) trivial rfl sl_14 ?_
  refine WA.done (by kernel_rfl) ?_
  refine WX.next ?_
  refine WC.seq ?_
  refine WC.region ?_
  refine WL.quiet (Qt.assign rfl) rfl rfl ?_
  refine WL.nil ?_
  refine WX.next ?_
  refine WC.seq ?_
  refine WC.seq ?_
  refine WC.region ?_
  refine WL.quiet (Qt.move rfl) rfl rfl ?_
  refine WL.nil ?_
  refine WX.next ?_
  refine WC.yes rfl ?_
  refine WC.region ?_
  refine WL.quiet (Qt.move rfl) rfl rfl ?_
  refine WL.quiet (Qt.loadBA 1 rfl ta49 ti49 rfl rfl) rfl rfl ?_
  refine WL.call (.take 3 rfl (.take 8 rfl (.take 8 rfl (.nil)))) (Cl.valR cb59 rfl rfl) (popW code inp q m _ _ _ _ _ _ _ _ _ _ _ _ _ _ s _ _ _ code[at_] hlt) trivial rfl ?_
  rintro _ _ ⟨A_3, rfl, rfl⟩
  refine WL.quiet (Qt.assign rfl) rfl rfl ?_
  refine WL.nil ?_
  refine WX.next ?_
  refine WC.seq ?_
  refine WC.seq ?_
  refine WC.region ?_
  refine WL.quiet (Qt.move rfl) rfl rfl ?_
  refine WL.quiet (Qt.neq rfl rfl) rfl rfl ?_
  refine WL.nil ?_
  refine WX.next ?_
  refine WC.no rfl ?_
  refine WC.skip ?_
  refine WX.next ?_
  refine WC.seq ?_
  refine WC.region ?_
  refine WL.quiet (Qt.move rfl) rfl rfl ?_
  refine WL.quiet (Qt.nilCheck rfl) rfl rfl ?_
  refine WL.quiet (Qt.fieldAddrB tf96_3 rfl) rfl rfl ?_
  refine WL.quiet (Qt.loadB 0 rfl ta3 rfl rfl) rfl rfl ?_
  refine WL.quiet (Qt.add rfl rfl (by omega)) rfl rfl ?_
  refine WL.quiet (Qt.nilCheck rfl) rfl rfl ?_
  refine WL.quiet (Qt.fieldAddrB tf96_3 rfl) rfl rfl ?_
  refine WL.loud (.take 0 rfl (.nil)) (Ld.store ti3 rfl rfl rfl rfl rfl rfl) trivial rfl ?_
  rintro _ _ rfl
  refine WL.nil ?_
  refine WX.next ?_
  refine WC.seq ?_
  refine WC.region ?_
  refine WL.quiet (Qt.move rfl) rfl rfl ?_
  refine WL.quiet (Qt.nilCheck rfl) rfl rfl ?_
  refine WL.quiet (Qt.fieldAddrB tf96_6 rfl) rfl rfl ?_
  refine WL.quiet (Qt.loadB 0 rfl ta4 rfl rfl) rfl rfl ?_
  refine WL.quiet (Qt.not rfl) rfl rfl ?_
  refine WL.quiet (Qt.assign rfl) rfl rfl ?_
  refine WL.quiet (Qt.assign rfl) rfl rfl ?_
  refine WL.nil ?_
  refine WX.next ?_
  refine WC.ret ?_
  refine WX.ret2 (.take 0 rfl (.take 9 rfl (.take 0 rfl (.take 0 rfl (.nil))))) rfl rfl rfl ?_
  exact ⟨EA, ce, A_3, cs, mx, rfl, rfl⟩

end Go.Proofs.YtolggjmgfijjfaaGreatDoor.Sep

/- A walk, printed by gen.py out of hints. -/
namespace Go.Proofs.YtolggjmgfijjfaaGreatDoor.Sep
open Go
variable {μ : Prop}
theorem endW (code : List Ins) (inp q m : List Bool) (CA IA QA MA EA : Option Addr) (cc ci cq cm ce bm bs at_ ne : Nat) (s : MS) (x : Ins) (hat : at_ ≤ 1000000) : Spec μ Tryz.prog 62 #[.pointer (some ⟨bm, 0, none⟩), .agg [.int .i64 x.op, .int .i64 x.sp, .int .i64 x.n, .int .i64 x.arg].toArray] [blk bm 96 [.slice CA code.length cc, .slice IA inp.length ci, .slice QA q.length cq, .slice MA m.length cm, .slice EA ne ce, .int .i64 ((at_ : Nat) : Int), .bool s.acc, .pointer (some ⟨bs, 0, none⟩), .bool false, .int .i64 0]] fun v Δ => v = .int .i64 0 ∧ Δ = [blk bm 96 [.slice CA code.length cc, .slice IA inp.length ci, .slice QA q.length cq, .slice MA m.length cm, .slice EA ne ce, .int .i64 (((at_ : Nat) : Int) - 1), .bool s.acc, .pointer (some ⟨bs, 0, none⟩), .bool true, .int .i64 0]] := by
 refine Spec.of_body (n := 15) Tryz.func62 rfl rfl rfl fun w0 S0 O0 => ?_
 show WC _ _ _ _ _ _ [(0, .pointer (some ⟨bm, 0, none⟩)), (1, .agg [.int .i64 x.op, .int .i64 x.sp, .int .i64 x.n, .int .i64 x.arg].toArray)] [blk bm 96 [.slice CA code.length cc, .slice IA inp.length ci, .slice QA q.length cq, .slice MA m.length cm, .slice EA ne ce, .int .i64 ((at_ : Nat) : Int), .bool s.acc, .pointer (some ⟨bs, 0, none⟩), .bool false, .int .i64 0]]
 refine WC.seq ?_
 refine WC.region ?_
 refine WL.loud (.nil) (Ld.box rfl rfl) trivial rfl ?_
 rintro _ _ ⟨b_1, rfl, rfl⟩
 refine WL.quiet (Qt.assign rfl) rfl rfl ?_
 refine WL.nil ?_
 refine WX.next ?_
 refine WC.seq ?_
 refine WC.region ?_
 refine WL.quiet (Qt.move rfl) rfl rfl ?_
 refine WL.quiet (Qt.nilCheck rfl) rfl rfl ?_
 refine WL.quiet (Qt.fieldAddrB tf96_6 rfl) rfl rfl ?_
 refine WL.loud (.take 1 rfl (.nil)) (Ld.store ti4 rfl rfl rfl rfl rfl rfl) trivial rfl ?_
 rintro _ _ rfl
 refine WL.nil ?_
 refine WX.next ?_
 refine WC.seq ?_
 refine WC.region ?_
 refine WL.quiet (Qt.move rfl) rfl rfl ?_
 refine WL.quiet (Qt.nilCheck rfl) rfl rfl ?_
 refine WL.quiet (Qt.fieldAddrB tf96_3 rfl) rfl rfl ?_
 refine WL.quiet (Qt.loadB 0 rfl ta3 rfl rfl) rfl rfl ?_
 refine WL.quiet (Qt.sub rfl rfl (by omega)) rfl rfl ?_
 refine WL.quiet (Qt.nilCheck rfl) rfl rfl ?_
 refine WL.quiet (Qt.fieldAddrB tf96_3 rfl) rfl rfl ?_
 refine WL.loud (.take 0 rfl (.nil)) (Ld.store ti3 rfl rfl rfl rfl rfl rfl) trivial rfl ?_
 rintro _ _ rfl
 refine WL.nil ?_
 refine WX.next ?_
 refine WC.seq ?_
 refine WC.region ?_
 refine WL.quiet (Qt.assign rfl) rfl rfl ?_
 refine WL.nil ?_
 refine WX.next ?_
 refine WC.ret ?_
 refine WX.ret1 (.take 0 rfl (.nil)) rfl rfl ?_
 exact ⟨rfl, rfl⟩

end Go.Proofs.YtolggjmgfijjfaaGreatDoor.Sep

/- A walk, printed by gen.py out of hints. -/
namespace Go.Proofs.YtolggjmgfijjfaaGreatDoor.Sep
open Go
variable {μ : Prop}
theorem stepEndW (code : List Ins) (inp q m : List Bool) (CA IA QA MA EA : Option Addr) (cc ci cq cm ce bm bs at_ : Nat) (s : MS) (SA : Option Addr) (cs : Nat) (mx : Int) (hcl : code.length ≤ 1000000) (hat : at_ < code.length) (hop : code[at_].op = 16) : Spec μ Tryz.prog 11 #[.pointer (some ⟨bm, 0, none⟩)] [blk bm 96 [.slice CA code.length cc, .slice IA inp.length ci, .slice QA q.length cq, .slice MA m.length cm, .slice EA s.E.length ce, .int .i64 ((at_ : Nat) : Int), .bool s.acc, .pointer (some ⟨bs, 0, none⟩), .bool false, .int .i64 0], rd kIns CA cc code, rd kBool IA ci inp, rd kBool QA cq q, rd kBool MA cm m, row kBool 4 EA ce s.E, blk bs 129 [.slice SA s.stk.length cs, .int .i64 64, .int .i64 mx], row kBool 4 SA cs s.stk] fun v Δ => ∃ at1 : Int, v = .tuple [.bool false, .int .i64 0].toArray ∧ Δ = [blk bm 96 [.slice CA code.length cc, .slice IA inp.length ci, .slice QA q.length cq, .slice MA m.length cm, .slice EA s.E.length ce, .int .i64 at1, .bool s.acc, .pointer (some ⟨bs, 0, none⟩), .bool true, .int .i64 0], row kBool 4 EA ce s.E, blk bs 129 [.slice SA s.stk.length cs, .int .i64 64, .int .i64 mx], row kBool 4 SA cs s.stk] := by
 refine Spec.of_body (n := 85) Tryz.func11 rfl rfl rfl fun w0 S0 O0 => ?_
 show WC _ _ _ _ _ _ [(0, .pointer (some ⟨bm, 0, none⟩))] [blk bm 96 [.slice CA code.length cc, .slice IA inp.length ci, .slice QA q.length cq, .slice MA m.length cm, .slice EA s.E.length ce, .int .i64 ((at_ : Nat) : Int), .bool s.acc, .pointer (some ⟨bs, 0, none⟩), .bool false, .int .i64 0], rd kIns CA cc code, rd kBool IA ci inp, rd kBool QA cq q, rd kBool MA cm m, row kBool 4 EA ce s.E, blk bs 129 [.slice SA s.stk.length cs, .int .i64 64, .int .i64 mx], row kBool 4 SA cs s.stk]
 refine WC.learn (Z := Unit) (Δ := fun _ => []) (φ := fun _ => code.length ≤ cc ∧ cc ≤ 9223372036854775807) 1 rfl (fun S w h => ⟨(), rd_bounds h, nofacts⟩) ?_
 rintro _ ⟨hb_1, hb_2⟩
 refine WC.seq ?_
 refine WC.region ?_
 refine WL.quiet (Qt.assign rfl) rfl rfl ?_
 refine WL.quiet (Qt.assign rfl) rfl rfl ?_
 refine WL.nil ?_
 refine WX.next ?_
 refine WC.seq ?_
 refine WC.block ?_
 refine WC.seq ?_
 refine WC.region ?_
 refine WL.quiet (Qt.move rfl) rfl rfl ?_
 refine WL.quiet (Qt.ptrNil Tryz.underlying44 rfl) rfl rfl ?_
 refine WL.quiet (Qt.assign rfl) rfl rfl ?_
 refine WL.nil ?_
 refine WX.next ?_
 refine WC.no rfl ?_
 refine WC.seq ?_
 refine WC.region ?_
 refine WL.quiet (Qt.move rfl) rfl rfl ?_
 refine WL.quiet (Qt.nilCheck rfl) rfl rfl ?_
 refine WL.quiet (Qt.fieldAddrB tf96_6 rfl) rfl rfl ?_
 refine WL.quiet (Qt.loadB 0 rfl ta4 rfl rfl) rfl rfl ?_
 refine WL.quiet (Qt.assign rfl) rfl rfl ?_
 refine WL.nil ?_
 refine WX.next ?_
 refine WC.no rfl ?_
 refine WC.seq ?_
 refine WC.calm (Calm.then (Calm.inBlock (Calm.then (calm_FQ _ _)))) fun hC => ?_
 refine WC.draw (Γq := [blk bm 96 [.slice CA code.length cc, .slice IA inp.length ci, .slice QA q.length cq, .slice MA m.length cm, .slice EA s.E.length ce, .int .i64 ((at_ : Nat) : Int), .bool s.acc, .pointer (some ⟨bs, 0, none⟩), .bool false, .int .i64 0], rd kIns CA cc code, rd kBool IA ci inp, rd kBool QA cq q, rd kBool MA cm m, row kBool 4 EA ce s.E, blk bs 129 [.slice SA s.stk.length cs, .int .i64 64, .int .i64 mx], row kBool 4 SA cs s.stk]) [0, 1, 2, 3, 4, 5, 6, 7, 8, 9, 10] mixed ?_
 refine WA.named (.take 0 rfl (.u 0 rfl (.u 1 rfl (.u 2 rfl (.u 3 rfl (.take 4 rfl (.take 4 rfl (.take 4 rfl (.nil))))))))) fun sl_1 => ?_
 refine WA.tk 0 (by kernel_rfl) rfl hC (Qt.move rfl) trivial rfl sl_1 ?_
 refine WA.tk 1 (by kernel_rfl) rfl hC (Qt.nilCheck rfl) trivial rfl sl_1 ?_
 refine WA.tk 2 (by kernel_rfl) rfl hC (Qt.fieldAddrB tf96_3 rfl) trivial rfl sl_1 ?_
 refine WA.tk 3 (by kernel_rfl) rfl hC (Qt.loadB 0 rfl ta3 rfl rfl) trivial rfl sl_1 ?_
 refine WA.tk 4 (by kernel_rfl) rfl hC (Qt.move rfl) trivial rfl sl_1 ?_
 refine WA.tk 5 (by kernel_rfl) rfl hC (Qt.nilCheck rfl) trivial rfl sl_1 ?_
 refine WA.tk 6 (by kernel_rfl) rfl hC (Qt.fieldAddrB tf96_0 rfl) trivial rfl sl_1 ?_
 refine WA.tk 7 (by kernel_rfl) rfl hC (Qt.loadB 0 rfl ta39 rfl rfl) trivial rfl sl_1 ?_
 refine WA.tk 8 (by kernel_rfl) rfl hC (Qt.lenS Tryz.underlying39 rfl) trivial rfl sl_1 ?_
 refine WA.tk 9 (by kernel_rfl) rfl hC (Qt.to (Qt.geq rfl rfl) (congrArg Value.bool (decide_eq_false (by omega)))) trivial rfl sl_1 ?_
 refine WA.tk 10 (by kernel_rfl) rfl hC (Qt.assign rfl) trivial rfl sl_1 ?_
 refine WA.done (by kernel_rfl) ?_
 refine WX.next ?_
 refine WC.no rfl ?_
 refine WC.skip ?_
 refine WX.block_end ?_
 refine WX.next ?_
 refine WC.seq ?_
 have hj_1 : at_ < code.length := by omega
 refine WC.learn 1 rfl (rd_at at_ hj_1 (vIns _)) ?_
 rintro ⟨p_1, ⟨⟩⟩ hA_1
 refine WC.calm (Calm.then (calm_FQ _ _)) fun hC => ?_
 refine WC.draw (Γq := [cellsAt (p_1.add (at_ * 4)) [.int .i64 (code[at_].op), .int .i64 (code[at_].sp), .int .i64 (code[at_].n), .int .i64 (code[at_].arg)], blk bm 96 [.slice CA code.length cc, .slice IA inp.length ci, .slice QA q.length cq, .slice MA m.length cm, .slice EA s.E.length ce, .int .i64 ((at_ : Nat) : Int), .bool s.acc, .pointer (some ⟨bs, 0, none⟩), .bool false, .int .i64 0], rd kIns CA cc code, rd kBool IA ci inp, rd kBool QA cq q, rd kBool MA cm m, row kBool 4 EA ce s.E, blk bs 129 [.slice SA s.stk.length cs, .int .i64 64, .int .i64 mx], row kBool 4 SA cs s.stk]) [0, 1, 2, 3, 4, 5, 6, 7, 8, 9, 10] mixed ?_
 refine WA.named (.u 0 rfl (.take 1 rfl (.u 1 rfl (.u 2 rfl (.u 3 rfl (.u 4 rfl (.take 5 rfl (.take 5 rfl (.take 5 rfl (.nil)))))))))) fun sl_2 => ?_
 refine WA.tk 0 (by kernel_rfl) rfl hC (Qt.move rfl) trivial rfl sl_2 ?_
 refine WA.tk 1 (by kernel_rfl) rfl hC (Qt.nilCheck rfl) trivial rfl sl_2 ?_
 refine WA.tk 2 (by kernel_rfl) rfl hC (Qt.fieldAddrB tf96_0 rfl) trivial rfl sl_2 ?_
 refine WA.tk 3 (by kernel_rfl) rfl hC (Qt.loadB 1 rfl ta39 rfl rfl) trivial rfl sl_2 ?_
 refine WA.tk 4 (by kernel_rfl) rfl hC (Qt.move rfl) trivial rfl sl_2 ?_
 refine WA.tk 5 (by kernel_rfl) rfl hC (Qt.nilCheck rfl) trivial rfl sl_2 ?_
 refine WA.tk 6 (by kernel_rfl) rfl hC (Qt.fieldAddrB tf96_3 rfl) trivial rfl sl_2 ?_
 refine WA.tk 7 (by kernel_rfl) rfl hC (Qt.loadB 1 rfl ta3 rfl rfl) trivial rfl sl_2 ?_
 refine WA.tk 8 (by kernel_rfl) rfl hC (Qt.indexAddrE at_ hA_1 Tryz.underlying39 ti49 rfl rfl (by first | assumption | omega)) trivial rfl sl_2 ?_
 refine WA.tk 9 (by kernel_rfl) rfl hC (Qt.loadCA (p := p_1.add (at_ * 4)) (o := 0) 0 rfl ta49 ti49 rfl rfl) trivial rfl sl_2 ?_
 refine WA.one 10 (by kernel_rfl) ?_
 refine WO.loud rfl (.nil) (Ld.alloc ti49 rfl) trivial rfl (by rintro _ _ ⟨b_1, rfl, rfl⟩; exact ⟨_, (.u 1 rfl (.take 2 rfl (.u 2 rfl (.u 3 rfl (.u 4 rfl (.u 5 rfl (.take 6 rfl (.take 6 rfl (.take 6 rfl (.nil))))))))))⟩) ?_
 rintro _ _ ⟨b_1, rfl, rfl⟩
 refine WA.phase (K' := [0, 1, 2, 3, 4, 5, 6, 7, 8, 9, 10, 11]) (Γq' := [cellsAt (p_1.add (at_ * 4)) [.int .i64 (code[at_].op), .int .i64 (code[at_].sp), .int .i64 (code[at_].n), .int .i64 (code[at_].arg)], blk bm 96 [.slice CA code.length cc, .slice IA inp.length ci, .slice QA q.length cq, .slice MA m.length cm, .slice EA s.E.length ce, .int .i64 ((at_ : Nat) : Int), .bool s.acc, .pointer (some ⟨bs, 0, none⟩), .bool false, .int .i64 0], rd kIns CA cc code, rd kBool IA ci inp, rd kBool QA cq q, rd kBool MA cm m, row kBool 4 EA ce s.E, blk bs 129 [.slice SA s.stk.length cs, .int .i64 64, .int .i64 mx], row kBool 4 SA cs s.stk]) (by kernel_rfl) ?_
 refine WA.one 11 (by kernel_rfl) ?_
 refine WO.loud rfl (.take 0 rfl (.nil)) (Ld.store ti49 rfl rfl rfl rfl rfl rfl) trivial rfl (by rintro _ _ rfl; exact ⟨_, (.u 1 rfl (.take 2 rfl (.u 2 rfl (.u 3 rfl (.u 4 rfl (.u 5 rfl (.take 6 rfl (.take 6 rfl (.take 6 rfl (.nil))))))))))⟩) ?_
 rintro _ _ rfl
 refine WA.done (by kernel_rfl) ?_
 refine WX.next ?_
 refine WC.seq ?_
 refine WC.calm (Calm.then (calm_FQ _ _)) fun hC => ?_
 refine WC.draw (Γq := [blk b_1 49 [.int .i64 (code[at_].op), .int .i64 (code[at_].sp), .int .i64 (code[at_].n), .int .i64 (code[at_].arg)], cellsAt (p_1.add (at_ * 4)) [.int .i64 (code[at_].op), .int .i64 (code[at_].sp), .int .i64 (code[at_].n), .int .i64 (code[at_].arg)], blk bm 96 [.slice CA code.length cc, .slice IA inp.length ci, .slice QA q.length cq, .slice MA m.length cm, .slice EA s.E.length ce, .int .i64 ((at_ : Nat) : Int), .bool s.acc, .pointer (some ⟨bs, 0, none⟩), .bool false, .int .i64 0], rd kIns CA cc code, rd kBool IA ci inp, rd kBool QA cq q, rd kBool MA cm m, row kBool 4 EA ce s.E, blk bs 129 [.slice SA s.stk.length cs, .int .i64 64, .int .i64 mx], row kBool 4 SA cs s.stk]) [0, 1, 2, 3, 4, 5, 6, 7, 8] mixed ?_
 refine WA.named (.take 0 rfl (.u 0 rfl (.take 1 rfl (.u 1 rfl (.u 2 rfl (.u 3 rfl (.u 4 rfl (.take 5 rfl (.take 5 rfl (.take 5 rfl (.nil))))))))))) fun sl_3 => ?_
 refine WA.tk 0 (by kernel_rfl) rfl hC (Qt.move rfl) trivial rfl sl_3 ?_
 refine WA.tk 2 (by kernel_rfl) rfl hC (Qt.fieldAddrB tf49_0 rfl) trivial rfl sl_3 ?_
 refine WA.tk 3 (by kernel_rfl) rfl hC (Qt.loadB 0 rfl ta3 rfl rfl) trivial rfl sl_3 ?_
 refine WA.one 1 (by kernel_rfl) ?_
 refine WO.call rfl (.nil) (Cl.func cb36 rfl) (doesW bm) trivial rfl (by rintro _ _ ⟨b_2, rfl, rfl⟩; exact ⟨_, (.take 1 rfl (.u 1 rfl (.take 2 rfl (.u 2 rfl (.u 3 rfl (.u 4 rfl (.u 5 rfl (.take 6 rfl (.take 6 rfl (.take 6 rfl (.nil)))))))))))⟩) ?_
 rintro _ _ ⟨b_2, rfl, rfl⟩
 refine WA.one 4 (by kernel_rfl) ?_
 refine WO.quiet rfl (Qt.to (Qt.lookupOk (z := .nilFunc) 0 rfl Tryz.underlying99 Tryz.underlying3 ti97 rfl rfl) (disp_val (disp_end hop))) trivial rfl (.take 1 rfl (.u 1 rfl (.take 2 rfl (.u 2 rfl (.u 3 rfl (.u 4 rfl (.u 5 rfl (.take 6 rfl (.take 6 rfl (.take 6 rfl (.nil))))))))))) ?_
 refine WA.named (.take 1 rfl (.u 1 rfl (.take 2 rfl (.u 2 rfl (.u 3 rfl (.u 4 rfl (.u 5 rfl (.take 6 rfl (.take 6 rfl (.take 6 rfl (.nil))))))))))) fun sl_4 => ?_
 refine WA.tk 5 (by kernel_rfl) rfl hC (Qt.move rfl) trivial rfl sl_4 ?_
 refine WA.tk 6 (by kernel_rfl) rfl hC (Qt.extract rfl rfl) trivial rfl sl_4 ?_
 refine WA.tk 7 (by kernel_rfl) rfl hC (Qt.extract rfl rfl) trivial rfl sl_4 ?_
 refine WA.tk 8 (by kernel_rfl) rfl hC (Qt.assign rfl) trivial rfl sl_4 ?_
 refine WA.phase (K' := [0, 1, 2, 3, 4, 5, 6, 7, 8, 9]) (Γq' := [mp intKey (fnV bm) b_2 [(0, 56), (1, 56), (2, 56), (3, 56), (4, 56), (5, 56), (6, 57), (7, 57), (8, 58), (9, 59), (10, 59), (11, 60), (12, 60), (13, 60), (14, 60), (15, 61), (16, 62)], blk b_1 49 [.int .i64 (code[at_].op), .int .i64 (code[at_].sp), .int .i64 (code[at_].n), .int .i64 (code[at_].arg)], cellsAt (p_1.add (at_ * 4)) [.int .i64 (code[at_].op), .int .i64 (code[at_].sp), .int .i64 (code[at_].n), .int .i64 (code[at_].arg)], blk bm 96 [.slice CA code.length cc, .slice IA inp.length ci, .slice QA q.length cq, .slice MA m.length cm, .slice EA s.E.length ce, .int .i64 ((at_ : Nat) : Int), .bool s.acc, .pointer (some ⟨bs, 0, none⟩), .bool false, .int .i64 0], rd kIns CA cc code, rd kBool IA ci inp, rd kBool QA cq q, rd kBool MA cm m, row kBool 4 EA ce s.E, blk bs 129 [.slice SA s.stk.length cs, .int .i64 64, .int .i64 mx], row kBool 4 SA cs s.stk]) (by kernel_rfl) ?_
 refine WA.named (.take 0 rfl (.take 0 rfl (.u 0 rfl (.take 1 rfl (.u 1 rfl (.u 2 rfl (.u 3 rfl (.u 4 rfl (.take 5 rfl (.take 5 rfl (.take 5 rfl (.nil)))))))))))) fun sl_5 => ?_
 refine WA.tk 9 (by kernel_rfl) rfl hC (Qt.assign rfl) trivial rfl sl_5 ?_
 refine WA.done (by kernel_rfl) ?_
 refine WX.next ?_
 refine WC.seq ?_
 refine WC.region ?_
 refine WL.quiet (Qt.assign rfl) rfl rfl ?_
 refine WL.nil ?_
 refine WX.next ?_
 refine WC.seq ?_
 refine WC.seq ?_
 refine WC.region ?_
 refine WL.quiet (Qt.move rfl) rfl rfl ?_
 refine WL.nil ?_
 refine WX.next ?_
 refine WC.yes rfl ?_
 refine WC.region ?_
 refine WL.quiet (Qt.move rfl) rfl rfl ?_
 refine WL.quiet (Qt.loadBA 1 rfl ta49 ti49 rfl rfl) rfl rfl ?_
 refine WL.call (.take 3 rfl (.nil)) (Cl.valR cb62 rfl rfl) (endW code inp q m _ _ _ _ _ _ _ _ _ _ _ _ _ _ s code[at_] (by omega)) trivial rfl ?_
 rintro _ _ ⟨rfl, rfl⟩
 refine WL.quiet (Qt.assign rfl) rfl rfl ?_
 refine WL.nil ?_
 refine WX.next ?_
 refine WC.seq ?_
 refine WC.seq ?_
 refine WC.region ?_
 refine WL.quiet (Qt.move rfl) rfl rfl ?_
 refine WL.quiet (Qt.neq rfl rfl) rfl rfl ?_
 refine WL.nil ?_
 refine WX.next ?_
 refine WC.no rfl ?_
 refine WC.skip ?_
 refine WX.next ?_
 refine WC.seq ?_
 refine WC.region ?_
 refine WL.quiet (Qt.move rfl) rfl rfl ?_
 refine WL.quiet (Qt.nilCheck rfl) rfl rfl ?_
 refine WL.quiet (Qt.fieldAddrB tf96_3 rfl) rfl rfl ?_
 refine WL.quiet (Qt.loadB 0 rfl ta3 rfl rfl) rfl rfl ?_
 refine WL.quiet (Qt.add rfl rfl (by omega)) rfl rfl ?_
 refine WL.quiet (Qt.nilCheck rfl) rfl rfl ?_
 refine WL.quiet (Qt.fieldAddrB tf96_3 rfl) rfl rfl ?_
 refine WL.loud (.take 0 rfl (.nil)) (Ld.store ti3 rfl rfl rfl rfl rfl rfl) trivial rfl ?_
 rintro _ _ rfl
 refine WL.nil ?_
 refine WX.next ?_
 refine WC.seq ?_
 refine WC.region ?_
 refine WL.quiet (Qt.move rfl) rfl rfl ?_
 refine WL.quiet (Qt.nilCheck rfl) rfl rfl ?_
 refine WL.quiet (Qt.fieldAddrB tf96_6 rfl) rfl rfl ?_
 refine WL.quiet (Qt.loadB 0 rfl ta4 rfl rfl) rfl rfl ?_
 refine WL.quiet (Qt.not rfl) rfl rfl ?_
 refine WL.quiet (Qt.assign rfl) rfl rfl ?_
 refine WL.quiet (Qt.assign rfl) rfl rfl ?_
 refine WL.nil ?_
 refine WX.next ?_
 refine WC.ret ?_
 refine WX.ret2 (.take 0 rfl (.take 7 rfl (.take 7 rfl (.take 7 rfl (.nil))))) rfl rfl rfl ?_
 exact ⟨_, rfl, rfl⟩

end Go.Proofs.YtolggjmgfijjfaaGreatDoor.Sep

/- A walk, printed by gen.py out of hints. -/
namespace Go.Proofs.YtolggjmgfijjfaaGreatDoor.Sep
open Go
variable {μ : Prop}
theorem accW (CA IA QA MA EA : Option Addr) (nc ni nq nm ne cc ci cq cm ce bm bs : Nat) (at1 : Int) (acc en : Bool)  : Spec μ Tryz.prog 12 #[.pointer (some ⟨bm, 0, none⟩)] [blk bm 96 [.slice CA nc cc, .slice IA ni ci, .slice QA nq cq, .slice MA nm cm, .slice EA ne ce, .int .i64 at1, .bool acc, .pointer (some ⟨bs, 0, none⟩), .bool en, .int .i64 0]] fun v Δ => v = .bool acc ∧ Δ = [blk bm 96 [.slice CA nc cc, .slice IA ni ci, .slice QA nq cq, .slice MA nm cm, .slice EA ne ce, .int .i64 at1, .bool acc, .pointer (some ⟨bs, 0, none⟩), .bool en, .int .i64 0]] := by
 refine Spec.of_body (n := 11) Tryz.func12 rfl rfl rfl fun w0 S0 O0 => ?_
 show WC _ _ _ _ _ _ [(0, .pointer (some ⟨bm, 0, none⟩))] [blk bm 96 [.slice CA nc cc, .slice IA ni ci, .slice QA nq cq, .slice MA nm cm, .slice EA ne ce, .int .i64 at1, .bool acc, .pointer (some ⟨bs, 0, none⟩), .bool en, .int .i64 0]]
 refine WC.seq ?_
 refine WC.region ?_
 refine WL.quiet (Qt.assign rfl) rfl rfl ?_
 refine WL.nil ?_
 refine WX.next ?_
 refine WC.seq ?_
 refine WC.region ?_
 refine WL.quiet (Qt.move rfl) rfl rfl ?_
 refine WL.quiet (Qt.ptrNotNil Tryz.underlying44 rfl) rfl rfl ?_
 refine WL.quiet (Qt.move rfl) rfl rfl ?_
 refine WL.quietG 2 true rfl 5 rfl rfl (Qt.move rfl) rfl ?_
 refine WL.quietG 2 true rfl 5 rfl rfl (Qt.nilCheck rfl) rfl ?_
 refine WL.quietG 2 true rfl 5 rfl rfl (Qt.fieldAddrB tf96_4 rfl) rfl ?_
 refine WL.quietG 2 true rfl 5 rfl rfl (Qt.loadB 0 rfl ta4 rfl rfl) rfl ?_
 refine WL.quiet (Qt.pickT rfl rfl) rfl rfl ?_
 refine WL.quiet (Qt.assign rfl) rfl rfl ?_
 refine WL.nil ?_
 refine WX.next ?_
 refine WC.ret ?_
 refine WX.ret1 (.take 0 rfl (.nil)) rfl rfl ?_
 exact ⟨rfl, rfl⟩

end Go.Proofs.YtolggjmgfijjfaaGreatDoor.Sep

/- A walk, printed by gen.py out of hints. -/
namespace Go.Proofs.YtolggjmgfijjfaaGreatDoor.Sep
open Go
variable {μ : Prop}
theorem stackDepthW (A : Option Addr) (n c bs : Nat) (mo mx : Int)  : Spec μ Tryz.prog 37 #[.pointer (some ⟨bs, 0, none⟩)] [blk bs 129 [.slice A n c, .int .i64 mo, .int .i64 mx]] fun v Δ => v = .int .i64 ((n : Nat) : Int) ∧ Δ = [blk bs 129 [.slice A n c, .int .i64 mo, .int .i64 mx]] := by
 refine Spec.of_body (n := 10) Tryz.func37 rfl rfl rfl fun w0 S0 O0 => ?_
 show WC _ _ _ _ _ _ [(0, .pointer (some ⟨bs, 0, none⟩))] [blk bs 129 [.slice A n c, .int .i64 mo, .int .i64 mx]]
 refine WC.seq ?_
 refine WC.region ?_
 refine WL.quiet (Qt.assign rfl) rfl rfl ?_
 refine WL.nil ?_
 refine WX.next ?_
 refine WC.seq ?_
 refine WC.seq ?_
 refine WC.region ?_
 refine WL.quiet (Qt.move rfl) rfl rfl ?_
 refine WL.quiet (Qt.ptrNil Tryz.underlying90 rfl) rfl rfl ?_
 refine WL.nil ?_
 refine WX.next ?_
 refine WC.no rfl ?_
 refine WC.skip ?_
 refine WX.next ?_
 refine WC.seq ?_
 refine WC.region ?_
 refine WL.quiet (Qt.move rfl) rfl rfl ?_
 refine WL.quiet (Qt.nilCheck rfl) rfl rfl ?_
 refine WL.quiet (Qt.fieldAddrB tf129_0 rfl) rfl rfl ?_
 refine WL.quiet (Qt.loadB 0 rfl ta26 rfl rfl) rfl rfl ?_
 refine WL.quiet (Qt.lenS Tryz.underlying26 rfl) rfl rfl ?_
 refine WL.quiet (Qt.assign rfl) rfl rfl ?_
 refine WL.nil ?_
 refine WX.next ?_
 refine WC.ret ?_
 refine WX.ret1 (.take 0 rfl (.nil)) rfl rfl ?_
 exact ⟨rfl, rfl⟩

end Go.Proofs.YtolggjmgfijjfaaGreatDoor.Sep

/- A walk, printed by gen.py out of hints. -/
namespace Go.Proofs.YtolggjmgfijjfaaGreatDoor.Sep
open Go
variable {μ : Prop}
theorem depthW (CA IA QA MA EA : Option Addr) (nc ni nq nm ne cc ci cq cm ce bm bs : Nat) (at1 : Int) (acc en : Bool) (A : Option Addr) (n c : Nat) (mo mx : Int)  : Spec μ Tryz.prog 13 #[.pointer (some ⟨bm, 0, none⟩)] [blk bm 96 [.slice CA nc cc, .slice IA ni ci, .slice QA nq cq, .slice MA nm cm, .slice EA ne ce, .int .i64 at1, .bool acc, .pointer (some ⟨bs, 0, none⟩), .bool en, .int .i64 0], blk bs 129 [.slice A n c, .int .i64 mo, .int .i64 mx]] fun v Δ => v = .int .i64 ((n : Nat) : Int) ∧ Δ = [blk bm 96 [.slice CA nc cc, .slice IA ni ci, .slice QA nq cq, .slice MA nm cm, .slice EA ne ce, .int .i64 at1, .bool acc, .pointer (some ⟨bs, 0, none⟩), .bool en, .int .i64 0], blk bs 129 [.slice A n c, .int .i64 mo, .int .i64 mx]] := by
 refine Spec.of_body (n := 10) Tryz.func13 rfl rfl rfl fun w0 S0 O0 => ?_
 show WC _ _ _ _ _ _ [(0, .pointer (some ⟨bm, 0, none⟩))] [blk bm 96 [.slice CA nc cc, .slice IA ni ci, .slice QA nq cq, .slice MA nm cm, .slice EA ne ce, .int .i64 at1, .bool acc, .pointer (some ⟨bs, 0, none⟩), .bool en, .int .i64 0], blk bs 129 [.slice A n c, .int .i64 mo, .int .i64 mx]]
 refine WC.seq ?_
 refine WC.region ?_
 refine WL.quiet (Qt.assign rfl) rfl rfl ?_
 refine WL.nil ?_
 refine WX.next ?_
 refine WC.seq ?_
 refine WC.seq ?_
 refine WC.region ?_
 refine WL.quiet (Qt.move rfl) rfl rfl ?_
 refine WL.quiet (Qt.ptrNil Tryz.underlying44 rfl) rfl rfl ?_
 refine WL.nil ?_
 refine WX.next ?_
 refine WC.no rfl ?_
 refine WC.skip ?_
 refine WX.next ?_
 refine WC.seq ?_
 refine WC.region ?_
 refine WL.quiet (Qt.move rfl) rfl rfl ?_
 refine WL.quiet (Qt.nilCheck rfl) rfl rfl ?_
 refine WL.quiet (Qt.fieldAddrB tf96_5 rfl) rfl rfl ?_
 refine WL.quiet (Qt.loadB 0 rfl ta90 rfl rfl) rfl rfl ?_
 refine WL.call (.take 1 rfl (.nil)) (Cl.func cb37 rfl) (stackDepthW _ _ _ _ _ _) trivial rfl ?_
 rintro _ _ ⟨rfl, rfl⟩
 refine WL.quiet (Qt.assign rfl) rfl rfl ?_
 refine WL.nil ?_
 refine WX.next ?_
 refine WC.ret ?_
 refine WX.ret1 (.take 1 rfl (.take 0 rfl (.nil))) rfl rfl ?_
 exact ⟨rfl, rfl⟩

end Go.Proofs.YtolggjmgfijjfaaGreatDoor.Sep

/- A walk, printed by gen.py out of hints. -/
namespace Go.Proofs.YtolggjmgfijjfaaGreatDoor.Sep
open Go
variable {μ : Prop}
theorem mStateW (q m e : List Bool) (CA IA QA MA EA : Option Addr) (nc ni cc ci cq cm ce bm bs : Nat) (at1 : Int) (acc en : Bool) (hq : q.length ≤ 100000) (hm : m.length ≤ 100000) (he : e.length ≤ 100000) : Spec μ Tryz.prog 15 #[.pointer (some ⟨bm, 0, none⟩)] [blk bm 96 [.slice CA nc cc, .slice IA ni ci, .slice QA q.length cq, .slice MA m.length cm, .slice EA e.length ce, .int .i64 at1, .bool acc, .pointer (some ⟨bs, 0, none⟩), .bool en, .int .i64 0], rd kBool QA cq q, rd kBool MA cm m, row kBool 4 EA ce e] fun v Δ => ∃ Q1 q1 M1 m1 E1 e1, v = .agg #[.slice Q1 q.length q1, .slice M1 m.length m1, .slice E1 e.length e1] ∧ Δ = [blk bm 96 [.slice CA nc cc, .slice IA ni ci, .slice QA q.length cq, .slice MA m.length cm, .slice EA e.length ce, .int .i64 at1, .bool acc, .pointer (some ⟨bs, 0, none⟩), .bool en, .int .i64 0], row kBool 4 EA ce e, row kBool 4 Q1 q1 q, row kBool 4 M1 m1 m, row kBool 4 E1 e1 e] := by
 refine Spec.of_body (n := 11) Tryz.func15 rfl rfl rfl fun w0 S0 O0 => ?_
 show WC _ _ _ _ _ _ [(0, .pointer (some ⟨bm, 0, none⟩))] [blk bm 96 [.slice CA nc cc, .slice IA ni ci, .slice QA q.length cq, .slice MA m.length cm, .slice EA e.length ce, .int .i64 at1, .bool acc, .pointer (some ⟨bs, 0, none⟩), .bool en, .int .i64 0], rd kBool QA cq q, rd kBool MA cm m, row kBool 4 EA ce e]
 refine WC.seq ?_
 refine WC.region ?_
 refine WL.loud (.nil) (Ld.alloc ti28 rfl) trivial rfl ?_
 rintro _ _ ⟨b_1, rfl, rfl⟩
 refine WL.nil ?_
 refine WX.next ?_
 refine WC.seq ?_
 refine WC.seq ?_
 refine WC.region ?_
 refine WL.quiet (Qt.move rfl) rfl rfl ?_
 refine WL.quiet (Qt.ptrNil Tryz.underlying44 rfl) rfl rfl ?_
 refine WL.nil ?_
 refine WX.next ?_
 refine WC.no rfl ?_
 refine WC.skip ?_
 refine WX.next ?_
 refine WC.seq ?_
 refine WC.region ?_
 refine WL.quiet (Qt.move rfl) rfl rfl ?_
 refine WL.quiet (Qt.nilCheck rfl) rfl rfl ?_
 refine WL.quiet (Qt.fieldAddrB tf96_2 rfl) rfl rfl ?_
 refine WL.quiet (Qt.loadBA 1 rfl ta28 ti28 rfl rfl) rfl rfl ?_
 refine WL.call (.take 4 rfl (.u 2 rfl (.u 3 rfl (.nil)))) (Cl.func cb35 rfl) (Spec.borrowRow (tb := 4) (U := [rd kBool QA cq q, rd kBool MA cm m]) (by simp [rd, pers]) (R := fun v Δ => ∃ Q1 q1 M1 m1 E1 e1, v = .agg #[.slice Q1 q.length q1, .slice M1 m.length m1, .slice E1 e.length e1] ∧ Δ = [row kBool 4 Q1 q1 q, row kBool 4 M1 m1 m, row kBool 4 E1 e1 e]) (fun v Δ h F hF => by obtain ⟨_, _, _, _, _, _, _, rfl⟩ := h; simp only [List.mem_cons, List.not_mem_nil, or_false] at hF; rcases hF with rfl | rfl | rfl <;> exact free_row) (Spec.less (.use 1 rfl (fun _ h => h) (.use 2 rfl (fun _ h => h) (.use 0 rfl (fun _ h => h) .nil))) (stateCloneW q m e _ _ _ _ _ _ hq hm he))) trivial rfl ?_
 rintro _ _ ⟨_, ⟨A_1, c_1, A_2, c_2, A_3, c_3, rfl, rfl⟩, rfl⟩
 refine WL.loud (.take 4 rfl (.nil)) (Ld.store ti28 rfl rfl rfl rfl rfl rfl) trivial rfl ?_
 rintro _ _ rfl
 refine WL.nil ?_
 refine WX.next ?_
 refine WC.ret ?_
 refine WX.retC 0 (.take 5 rfl (.take 1 rfl (.take 1 rfl (.take 1 rfl (.take 1 rfl (.nil)))))) rfl rfl rfl ta28 ti28 rfl ?_
 exact ⟨A_1, c_1, A_2, c_2, A_3, c_3, rfl, rfl⟩

end Go.Proofs.YtolggjmgfijjfaaGreatDoor.Sep

/- A walk, printed by gen.py out of hints. -/
namespace Go.Proofs.YtolggjmgfijjfaaGreatDoor.Sep
open Go
variable {μ : Prop}
theorem equalBW (a b : List Bool) (A B : Option Addr) (c d : Nat)  : Spec μ Tryz.prog 14 #[.slice A a.length c, .slice B b.length d] [rd kBool A c a, rd kBool B d b] fun v Δ => v = .bool (same a b) ∧ Δ = [] := by
 refine Spec.of_body (n := 26) Tryz.func14 rfl rfl rfl fun w0 S0 O0 => ?_
 show WC _ _ _ _ _ _ [(0, .slice A a.length c), (1, .slice B b.length d)] [rd kBool A c a, rd kBool B d b]
 refine WC.learn (Z := Unit) (Δ := fun _ => []) (φ := fun _ => a.length ≤ c ∧ c ≤ 9223372036854775807) 0 rfl (fun S w h => ⟨(), rd_bounds h, nofacts⟩) ?_
 rintro _ ⟨hb_1, hb_2⟩
 refine WC.learn (Z := Unit) (Δ := fun _ => []) (φ := fun _ => b.length ≤ d ∧ d ≤ 9223372036854775807) 1 rfl (fun S w h => ⟨(), rd_bounds h, nofacts⟩) ?_
 rintro _ ⟨hb_3, hb_4⟩
 refine WC.seq ?_
 refine WC.region ?_
 refine WL.quiet (Qt.assign rfl) rfl rfl ?_
 refine WL.nil ?_
 refine WX.next ?_
 refine WC.seq ?_
 refine WC.seq ?_
 refine WC.region ?_
 refine WL.quiet (Qt.move rfl) rfl rfl ?_
 refine WL.quiet (Qt.lenS Tryz.underlying26 rfl) rfl rfl ?_
 refine WL.quiet (Qt.move rfl) rfl rfl ?_
 refine WL.quiet (Qt.lenS Tryz.underlying26 rfl) rfl rfl ?_
 refine WL.quiet (Qt.neq rfl rfl) rfl rfl ?_
 refine WL.nil ?_
 refine WX.next ?_
 refine WC.condD rfl (fun hc_1 => ?_) (fun hc_1 => ?_)
 ·
  refine WC.seq ?_
  refine WC.region ?_
  refine WL.quiet (Qt.assign rfl) rfl rfl ?_
  refine WL.nil ?_
  refine WX.next ?_
  refine WC.ret ?_
  refine WX.pass_ret ?_
  refine WX.ret1 (.nil) rfl rfl ?_
  exact ⟨by rw [same_not]; exact not_of_length (by omega), rfl⟩
 ·
  refine WC.skip ?_
  refine WX.next ?_
  refine WC.seq ?_
  refine WC.seq ?_
  refine WC.region ?_
  refine WL.quiet (Qt.move rfl) rfl rfl ?_
  refine WL.quiet (Qt.lenS Tryz.underlying26 rfl) rfl rfl ?_
  refine WL.quiet (Qt.move rfl) rfl rfl ?_
  refine WL.nil ?_
  refine WX.next ?_
  refine WC.block ?_
  refine WC.loop (fun w0 : Nat => [(0, .slice A a.length c), (1, .slice B b.length d), (4, .bool false), (12, .int .i64 ((a.length : Nat) : Int)), (13, .int .i64 ((w0 : Nat) : Int))]) (fun w0 => [rd kBool A c a, rd kBool B d b]) (fun w0 => w0 ≤ a.length ∧ a.take w0 = b.take w0) (fun w0 => a.length - w0) 0 ⟨Nat.zero_le _, rfl⟩ ⟨rfl, rfl, rfl, rfl, rfl, trivial⟩ (.u 0 rfl (.u 1 rfl (.nil))) ?_
  rintro k ⟨hk, hkk⟩
  try dsimp only at hk hkk
  show WC _ _ _ _ _ _ [(0, .slice A a.length c), (1, .slice B b.length d), (4, .bool false), (12, .int .i64 ((a.length : Nat) : Int)), (13, .int .i64 ((k : Nat) : Int))] [rd kBool A c a, rd kBool B d b]
  refine WC.seq ?_
  refine WC.region ?_
  refine WL.quiet (Qt.lss rfl rfl) rfl rfl ?_
  refine WL.nil ?_
  refine WX.next ?_
  refine WC.seq ?_
  refine WC.condD rfl (fun hc_2 => ?_) (fun hc_2 => ?_)
  ·
   refine WC.skip ?_
   refine WX.next ?_
   refine WC.seq ?_
   refine WC.block ?_
   refine WC.seq ?_
   refine WC.region ?_
   refine WL.quiet (Qt.move rfl) rfl rfl ?_
   refine WL.quiet (Qt.assign rfl) rfl rfl ?_
   refine WL.nil ?_
   refine WX.next ?_
   refine WC.seq ?_
   have hj_1 : k < a.length := by omega
   refine WC.learn 0 rfl (rd_at k hj_1 (vBool _)) ?_
   rintro ⟨p_1, ⟨⟩⟩ hA_1
   have hj_2 : k < b.length := by omega
   refine WC.learn 2 rfl (rd_at k hj_2 (vBool _)) ?_
   rintro ⟨p_2, ⟨⟩⟩ hA_2
   refine WC.calm (Calm.then (Calm.inBlock (Calm.then (Calm.then (Calm.inBlock (Calm.then (calm_FQ _ _))))))) fun hC => ?_
   refine WC.draw (Γq := [cellsAt (p_2.add (k * 1)) [.bool (b[k])], cellsAt (p_1.add (k * 1)) [.bool (a[k])], rd kBool A c a, rd kBool B d b]) [0, 1, 2, 3, 4, 5, 6, 7, 8] mixed ?_
   refine WA.named (.u 0 rfl (.u 1 rfl (.u 2 rfl (.u 3 rfl (.nil))))) fun sl_1 => ?_
   refine WA.tk 0 (by kernel_rfl) rfl hC (Qt.move rfl) trivial rfl sl_1 ?_
   refine WA.tk 1 (by kernel_rfl) rfl hC (Qt.move rfl) trivial rfl sl_1 ?_
   refine WA.tk 2 (by kernel_rfl) rfl hC (Qt.indexAddrE k hA_1 Tryz.underlying26 ti4 rfl rfl (by first | assumption | omega)) trivial rfl sl_1 ?_
   refine WA.tk 3 (by kernel_rfl) rfl hC (Qt.loadC (p := p_1.add (k * 1)) (o := 0) 1 rfl ta4 rfl rfl) trivial rfl sl_1 ?_
   refine WA.tk 4 (by kernel_rfl) rfl hC (Qt.move rfl) trivial rfl sl_1 ?_
   refine WA.tk 5 (by kernel_rfl) rfl hC (Qt.move rfl) trivial rfl sl_1 ?_
   refine WA.tk 6 (by kernel_rfl) rfl hC (Qt.indexAddrE k hA_2 Tryz.underlying26 ti4 rfl rfl (by first | assumption | omega)) trivial rfl sl_1 ?_
   refine WA.tk 7 (by kernel_rfl) rfl hC (Qt.loadC (p := p_2.add (k * 1)) (o := 0) 0 rfl ta4 rfl rfl) trivial rfl sl_1 ?_
   refine WA.tk 8 (by kernel_rfl) rfl hC (Qt.bneq Tryz.underlying4 rfl rfl) trivial rfl sl_1 ?_
   refine WA.done (by kernel_rfl) ?_
   refine WX.next ?_
   refine WC.cond rfl (fun hc_3 => ?_) (fun hc_3 => ?_)
   ·
    refine WC.seq ?_
    refine WC.region ?_
    refine WL.quiet (Qt.assign rfl) rfl rfl ?_
    refine WL.nil ?_
    refine WX.next ?_
    refine WC.ret ?_
    refine WX.block_ret ?_
    refine WX.pass_ret ?_
    refine WX.pass_ret ?_
    refine WX.block_ret ?_
    refine WX.pass_ret ?_
    refine WX.ret1 (.nil) rfl rfl ?_
    exact ⟨by rw [same_not]; exact not_of_get (by omega) (by omega) (fun h => by simp [h] at hc_3), rfl⟩
   ·
    refine WC.skip ?_
    refine WX.block_end ?_
    refine WX.next ?_
    refine WC.region ?_
    refine WL.quiet (Qt.add rfl rfl (by omega)) rfl rfl ?_
    refine WL.quiet (Qt.move rfl) rfl rfl ?_
    refine WL.nil ?_
    exact WX.back (k + 1) ⟨by omega, take_succ_eq hkk (by omega) (by omega) (by simpa using hc_3)⟩ (by first | omega | (dsimp only; omega) | (simp; omega)) ⟨rfl, rfl, rfl, rfl, rfl, trivial⟩ (.u 2 rfl (.u 3 rfl (.nil)))
  ·
   refine WC.exit ?_
   refine WX.pass_exit ?_
   refine WX.pass_exit ?_
   refine WX.block_exit ?_
   refine WX.next ?_
   refine WC.seq ?_
   refine WC.region ?_
   refine WL.quiet (Qt.assign rfl) rfl rfl ?_
   refine WL.nil ?_
   refine WX.next ?_
   refine WC.ret ?_
   refine WX.ret1 (.nil) rfl rfl ?_
   exact ⟨by rw [(same_iff a b).2]; exact take_all_eq hkk (by omega) (by omega), rfl⟩

end Go.Proofs.YtolggjmgfijjfaaGreatDoor.Sep

/- A walk, printed by gen.py out of hints. -/
namespace Go.Proofs.YtolggjmgfijjfaaGreatDoor.Sep
open Go
variable {μ : Prop}
theorem law17W (cs : List Contact) (inp q m e : List Bool) (nm cm : ByteArray) (CA OA IA QA MA EA : Option Addr) (no cc oc ci cq cm1 ce : Nat) (hb : q.length ≤ 140737488355328 ∧ m.length ≤ 140737488355328 ∧ e.length ≤ 140737488355328) : Spec False Tryz.prog 3 #[.agg [.string nm, .slice CA cs.length cc, .slice OA no oc, .string cm].toArray, .slice IA inp.length ci, .agg [.slice QA q.length cq, .slice MA m.length cm1, .slice EA e.length ce].toArray] [rd kContact CA cc cs, rd kBool IA ci inp, rd kBool QA cq q, rd kBool MA cm1 m, rd kBool EA ce e, cellsAt ⟨0, 0, none⟩ (loadsT.map (Value.int .i64)), cellsAt ⟨1, 0, none⟩ (joinsT.map (Value.int .i64)), cellsAt ⟨2, 0, none⟩ (popsT.map (Value.int .i64)), cellsAt (⟨3, 0, none⟩ : Addr) [.int .i64 11, .int .i64 12, .int .i64 13, .int .i64 14]] fun v Δ => v = .bool true ∧ Δ = [] := by
 refine Spec.of_body (n := 145) Tryz.func3 rfl rfl rfl fun w0 S0 O0 => ?_
 show WC _ _ _ _ _ _ [(0, .agg [.string nm, .slice CA cs.length cc, .slice OA no oc, .string cm].toArray), (1, .slice IA inp.length ci), (2, .agg [.slice QA q.length cq, .slice MA m.length cm1, .slice EA e.length ce].toArray)] [rd kContact CA cc cs, rd kBool IA ci inp, rd kBool QA cq q, rd kBool MA cm1 m, rd kBool EA ce e, cellsAt ⟨0, 0, none⟩ (loadsT.map (Value.int .i64)), cellsAt ⟨1, 0, none⟩ (joinsT.map (Value.int .i64)), cellsAt ⟨2, 0, none⟩ (popsT.map (Value.int .i64)), cellsAt (⟨3, 0, none⟩ : Addr) [.int .i64 11, .int .i64 12, .int .i64 13, .int .i64 14]]
 refine WC.learn (Z := Unit) (Δ := fun _ => []) (φ := fun _ => cs.length ≤ cc ∧ cc ≤ 9223372036854775807) 0 rfl (fun S w h => ⟨(), rd_bounds h, nofacts⟩) ?_
 rintro _ ⟨hb_1, hb_2⟩
 refine WC.learn (Z := Unit) (Δ := fun _ => []) (φ := fun _ => inp.length ≤ ci ∧ ci ≤ 9223372036854775807) 1 rfl (fun S w h => ⟨(), rd_bounds h, nofacts⟩) ?_
 rintro _ ⟨hb_3, hb_4⟩
 refine WC.learn (Z := Unit) (Δ := fun _ => []) (φ := fun _ => q.length ≤ cq ∧ cq ≤ 9223372036854775807) 2 rfl (fun S w h => ⟨(), rd_bounds h, nofacts⟩) ?_
 rintro _ ⟨hb_5, hb_6⟩
 refine WC.learn (Z := Unit) (Δ := fun _ => []) (φ := fun _ => m.length ≤ cm1 ∧ cm1 ≤ 9223372036854775807) 3 rfl (fun S w h => ⟨(), rd_bounds h, nofacts⟩) ?_
 rintro _ ⟨hb_7, hb_8⟩
 refine WC.learn (Z := Unit) (Δ := fun _ => []) (φ := fun _ => e.length ≤ ce ∧ ce ≤ 9223372036854775807) 4 rfl (fun S w h => ⟨(), rd_bounds h, nofacts⟩) ?_
 rintro _ ⟨hb_9, hb_10⟩
 refine WC.seq ?_
 refine WC.region ?_
 refine WL.loud (.nil) (Ld.box rfl rfl) trivial rfl ?_
 rintro _ _ ⟨b_1, rfl, rfl⟩
 refine WL.loud (.nil) (Ld.box rfl rfl) trivial rfl ?_
 rintro _ _ ⟨b_2, rfl, rfl⟩
 refine WL.quiet (Qt.assign rfl) rfl rfl ?_
 refine WL.nil ?_
 refine WX.next ?_
 refine WC.seq ?_
 refine WC.seq ?_
 refine WC.region ?_
 refine WL.quiet (Qt.loadBA 1 rfl ta25 ti25 rfl rfl) rfl rfl ?_
 refine WL.call (.u 2 rfl (.nil)) (Cl.func cb4 rfl) (tooLargeRungW cs _ _ _ _ _ _ _) trivial rfl ?_
 rintro _ _ ⟨x_1, rfl, rfl, hx_1⟩
 refine WL.quiet (Qt.gtr rfl rfl) rfl rfl ?_
 refine WL.quiet (Qt.move rfl) rfl rfl ?_
 refine WL.splitD 22 rfl rfl (fun hg_1 => ?_) (fun hg_1 => ?_)
 ·
  refine WL.skipG 3 false true rfl 22 rfl rfl rfl rfl ?_
  refine WL.skipG 3 false true rfl 22 rfl rfl rfl rfl ?_
  refine WL.skipG 3 false true rfl 22 rfl rfl rfl rfl ?_
  refine WL.skipG 3 false true rfl 22 rfl rfl rfl rfl ?_
  refine WL.quiet (Qt.pickT rfl rfl) rfl rfl ?_
  refine WL.quiet (Qt.move rfl) rfl rfl ?_
  refine WL.skipG 9 false true rfl 28 rfl rfl rfl rfl ?_
  refine WL.skipG 9 false true rfl 28 rfl rfl rfl rfl ?_
  refine WL.skipG 9 false true rfl 28 rfl rfl rfl rfl ?_
  refine WL.quiet (Qt.pickT rfl rfl) rfl rfl ?_
  refine WL.quiet (Qt.move rfl) rfl rfl ?_
  refine WL.skipG 14 false true rfl 33 rfl rfl rfl rfl ?_
  refine WL.skipG 14 false true rfl 33 rfl rfl rfl rfl ?_
  refine WL.skipG 14 false true rfl 33 rfl rfl rfl rfl ?_
  refine WL.skipG 14 false true rfl 33 rfl rfl rfl rfl ?_
  refine WL.skipG 14 false true rfl 33 rfl rfl rfl rfl ?_
  refine WL.skipG 14 false true rfl 33 rfl rfl rfl rfl ?_
  refine WL.skipG 14 false true rfl 33 rfl rfl rfl rfl ?_
  refine WL.skipG 14 false true rfl 33 rfl rfl rfl rfl ?_
  refine WL.skipG 14 false true rfl 33 rfl rfl rfl rfl ?_
  refine WL.skipG 14 false true rfl 33 rfl rfl rfl rfl ?_
  refine WL.skipG 14 false true rfl 33 rfl rfl rfl rfl ?_
  refine WL.skipG 14 false true rfl 33 rfl rfl rfl rfl ?_
  refine WL.quiet (Qt.pickT rfl rfl) rfl rfl ?_
  refine WL.nil ?_
  refine WX.next ?_
  refine WC.yes rfl ?_
  refine WC.seq ?_
  refine WC.region ?_
  refine WL.call (.u 7 rfl (.u 8 rfl (.u 9 rfl (.u 10 rfl (.nil))))) (Cl.func cb5 rfl) (alive17W) trivial rfl ?_
  rintro _ _ ⟨rfl, rfl⟩
  refine WL.quiet (Qt.assign rfl) rfl rfl ?_
  refine WL.nil ?_
  refine WX.next ?_
  refine WC.ret ?_
  refine WX.pass_ret ?_
  refine WX.ret1 (.nil) rfl rfl ?_
  exact ⟨rfl, rfl⟩
 ·
  refine WL.quietG 3 false rfl 22 rfl rfl (Qt.fieldAddrB tf25_1 rfl) rfl ?_
  refine WL.quietG 3 false rfl 22 rfl rfl (Qt.loadB 1 rfl ta22 rfl rfl) rfl ?_
  refine WL.quietG 3 false rfl 22 rfl rfl (Qt.lenS Tryz.underlying22 rfl) rfl ?_
  refine WL.quietG 3 false rfl 22 rfl rfl (Qt.gtr rfl rfl) rfl ?_
  refine WL.quiet (Qt.pickF rfl rfl) rfl rfl ?_
  refine WL.quiet (Qt.move rfl) rfl rfl ?_
  refine WL.splitD 28 rfl rfl (fun hg_2 => ?_) (fun hg_2 => ?_)
  ·
   refine WL.skipG 9 false true rfl 28 rfl rfl rfl rfl ?_
   refine WL.skipG 9 false true rfl 28 rfl rfl rfl rfl ?_
   refine WL.skipG 9 false true rfl 28 rfl rfl rfl rfl ?_
   refine WL.quiet (Qt.pickT rfl rfl) rfl rfl ?_
   refine WL.quiet (Qt.move rfl) rfl rfl ?_
   refine WL.skipG 14 false true rfl 33 rfl rfl rfl rfl ?_
   refine WL.skipG 14 false true rfl 33 rfl rfl rfl rfl ?_
   refine WL.skipG 14 false true rfl 33 rfl rfl rfl rfl ?_
   refine WL.skipG 14 false true rfl 33 rfl rfl rfl rfl ?_
   refine WL.skipG 14 false true rfl 33 rfl rfl rfl rfl ?_
   refine WL.skipG 14 false true rfl 33 rfl rfl rfl rfl ?_
   refine WL.skipG 14 false true rfl 33 rfl rfl rfl rfl ?_
   refine WL.skipG 14 false true rfl 33 rfl rfl rfl rfl ?_
   refine WL.skipG 14 false true rfl 33 rfl rfl rfl rfl ?_
   refine WL.skipG 14 false true rfl 33 rfl rfl rfl rfl ?_
   refine WL.skipG 14 false true rfl 33 rfl rfl rfl rfl ?_
   refine WL.skipG 14 false true rfl 33 rfl rfl rfl rfl ?_
   refine WL.quiet (Qt.pickT rfl rfl) rfl rfl ?_
   refine WL.nil ?_
   refine WX.next ?_
   refine WC.yes rfl ?_
   refine WC.seq ?_
   refine WC.region ?_
   refine WL.call (.u 7 rfl (.u 8 rfl (.u 9 rfl (.u 10 rfl (.nil))))) (Cl.func cb5 rfl) (alive17W) trivial rfl ?_
   rintro _ _ ⟨rfl, rfl⟩
   refine WL.quiet (Qt.assign rfl) rfl rfl ?_
   refine WL.nil ?_
   refine WX.next ?_
   refine WC.ret ?_
   refine WX.pass_ret ?_
   refine WX.ret1 (.nil) rfl rfl ?_
   exact ⟨rfl, rfl⟩
  ·
   refine WL.quietG 9 false rfl 28 rfl rfl (Qt.move rfl) rfl ?_
   refine WL.quietG 9 false rfl 28 rfl rfl (Qt.lenS Tryz.underlying26 rfl) rfl ?_
   refine WL.quietG 9 false rfl 28 rfl rfl (Qt.gtr rfl rfl) rfl ?_
   refine WL.quiet (Qt.pickF rfl rfl) rfl rfl ?_
   refine WL.quiet (Qt.move rfl) rfl rfl ?_
   refine WL.splitD 33 rfl rfl (fun hg_3 => ?_) (fun hg_3 => ?_)
   ·
    refine WL.skipG 14 false true rfl 33 rfl rfl rfl rfl ?_
    refine WL.skipG 14 false true rfl 33 rfl rfl rfl rfl ?_
    refine WL.skipG 14 false true rfl 33 rfl rfl rfl rfl ?_
    refine WL.skipG 14 false true rfl 33 rfl rfl rfl rfl ?_
    refine WL.skipG 14 false true rfl 33 rfl rfl rfl rfl ?_
    refine WL.skipG 14 false true rfl 33 rfl rfl rfl rfl ?_
    refine WL.skipG 14 false true rfl 33 rfl rfl rfl rfl ?_
    refine WL.skipG 14 false true rfl 33 rfl rfl rfl rfl ?_
    refine WL.skipG 14 false true rfl 33 rfl rfl rfl rfl ?_
    refine WL.skipG 14 false true rfl 33 rfl rfl rfl rfl ?_
    refine WL.skipG 14 false true rfl 33 rfl rfl rfl rfl ?_
    refine WL.skipG 14 false true rfl 33 rfl rfl rfl rfl ?_
    refine WL.quiet (Qt.pickT rfl rfl) rfl rfl ?_
    refine WL.nil ?_
    refine WX.next ?_
    refine WC.yes rfl ?_
    refine WC.seq ?_
    refine WC.region ?_
    refine WL.call (.u 7 rfl (.u 8 rfl (.u 9 rfl (.u 10 rfl (.nil))))) (Cl.func cb5 rfl) (alive17W) trivial rfl ?_
    rintro _ _ ⟨rfl, rfl⟩
    refine WL.quiet (Qt.assign rfl) rfl rfl ?_
    refine WL.nil ?_
    refine WX.next ?_
    refine WC.ret ?_
    refine WX.pass_ret ?_
    refine WX.ret1 (.nil) rfl rfl ?_
    exact ⟨rfl, rfl⟩
   ·
    refine WL.quietG 14 false rfl 33 rfl rfl (Qt.fieldAddrB tf28_0 rfl) rfl ?_
    refine WL.quietG 14 false rfl 33 rfl rfl (Qt.loadB 0 rfl ta26 rfl rfl) rfl ?_
    refine WL.quietG 14 false rfl 33 rfl rfl (Qt.lenS Tryz.underlying26 rfl) rfl ?_
    refine WL.quietG 14 false rfl 33 rfl rfl (Qt.fieldAddrB tf28_1 rfl) rfl ?_
    refine WL.quietG 14 false rfl 33 rfl rfl (Qt.loadB 0 rfl ta26 rfl rfl) rfl ?_
    refine WL.quietG 14 false rfl 33 rfl rfl (Qt.lenS Tryz.underlying26 rfl) rfl ?_
    refine WL.quietG 14 false rfl 33 rfl rfl (Qt.add rfl rfl (by omega)) rfl ?_
    refine WL.quietG 14 false rfl 33 rfl rfl (Qt.fieldAddrB tf28_2 rfl) rfl ?_
    refine WL.quietG 14 false rfl 33 rfl rfl (Qt.loadB 0 rfl ta26 rfl rfl) rfl ?_
    refine WL.quietG 14 false rfl 33 rfl rfl (Qt.lenS Tryz.underlying26 rfl) rfl ?_
    refine WL.quietG 14 false rfl 33 rfl rfl (Qt.add rfl rfl (by omega)) rfl ?_
    refine WL.quietG 14 false rfl 33 rfl rfl (Qt.gtr rfl rfl) rfl ?_
    refine WL.quiet (Qt.pickF rfl rfl) rfl rfl ?_
    refine WL.nil ?_
    refine WX.next ?_
    refine WC.condD rfl (fun hc_1 => ?_) (fun hc_1 => ?_)
    ·
     refine WC.seq ?_
     refine WC.region ?_
     refine WL.call (.u 7 rfl (.u 8 rfl (.u 9 rfl (.u 10 rfl (.nil))))) (Cl.func cb5 rfl) (alive17W) trivial rfl ?_
     rintro _ _ ⟨rfl, rfl⟩
     refine WL.quiet (Qt.assign rfl) rfl rfl ?_
     refine WL.nil ?_
     refine WX.next ?_
     refine WC.ret ?_
     refine WX.pass_ret ?_
     refine WX.ret1 (.nil) rfl rfl ?_
     exact ⟨rfl, rfl⟩
    ·
     refine WC.skip ?_
     refine WX.next ?_
     refine WC.seq ?_
     have hcs : cs.length ≤ 40 ∧ inp.length ≤ 500 ∧ q.length + m.length + e.length ≤ 1000 := by omega
     refine WC.region ?_
     refine WL.quiet (Qt.loadBA 1 rfl ta25 ti25 rfl rfl) rfl rfl ?_
     refine WL.call (.u 2 rfl (.nil)) (Cl.func cb6 rfl) (reduceW cs _ _ _ _ _ _ _ (by omega)) trivial rfl ?_
     rintro _ _ ⟨e_1, u_1, A_1, c_1, rfl, rfl, hred_1⟩
     refine WL.quiet (Qt.move rfl) rfl rfl ?_
     refine WL.quiet (Qt.extract rfl rfl) rfl rfl ?_
     refine WL.quiet (Qt.extract rfl rfl) rfl rfl ?_
     refine WL.loud (.nil) (Ld.alloc ti33 rfl) trivial rfl ?_
     rintro _ _ ⟨b_3, rfl, rfl⟩
     refine WL.loud (.take 0 rfl (.nil)) (Ld.store ti33 rfl rfl rfl rfl rfl rfl) trivial rfl ?_
     rintro _ _ rfl
     refine WL.quiet (Qt.assign rfl) rfl rfl ?_
     refine WL.nil ?_
     refine WX.next ?_
     refine WC.seq ?_
     refine WC.region ?_
     refine WL.quiet (Qt.loadBA 3 rfl ta25 ti25 rfl rfl) rfl rfl ?_
     refine WL.quiet (Qt.move rfl) rfl rfl ?_
     refine WL.quiet (Qt.loadBA 2 rfl ta28 ti28 rfl rfl) rfl rfl ?_
     refine WL.call (.u 4 rfl (.u 5 rfl (.u 6 rfl (.u 7 rfl (.u 8 rfl (.nil)))))) (Cl.func cb7 rfl) (refContactsW cs inp q m e _ _ _ _ _ _ _ _ _ _ _ _ _ _ _ (by omega) (by omega) (by omega) (by omega)) trivial rfl ?_
     rintro _ _ ⟨x_2, A_2, c_2, l_1, A_3, c_3, n_1, A_4, c_4, n_2, A_5, c_5, l_2, rfl, rfl, hI_1⟩
     refine WL.quiet (Qt.move rfl) rfl rfl ?_
     refine WL.quiet (Qt.extract rfl rfl) rfl rfl ?_
     refine WL.quiet (Qt.extract rfl rfl) rfl rfl ?_
     refine WL.quiet (Qt.extract rfl rfl) rfl rfl ?_
     refine WL.loud (.nil) (Ld.alloc ti28 rfl) trivial rfl ?_
     rintro _ _ ⟨b_4, rfl, rfl⟩
     refine WL.quiet (Qt.assign rfl) rfl rfl ?_
     refine WL.loud (.take 0 rfl (.nil)) (Ld.store ti28 rfl rfl rfl rfl rfl rfl) trivial rfl ?_
     rintro _ _ rfl
     refine WL.quiet (Qt.assign rfl) rfl rfl ?_
     refine WL.nil ?_
     refine WX.next ?_
     refine WC.seq ?_
     refine WC.cut (fun _ : Unit => [(1, .slice IA inp.length ci), (3, .pointer (some ⟨b_1, 0, none⟩)), (5, .pointer (some ⟨b_2, 0, none⟩)), (6, .bool false), (7, .pointer (some ⟨b_3, 0, none⟩)), (10, .pointer (some ⟨b_4, 0, none⟩)), (9, .slice A_2 l_1.length c_2), (66, .bool (decide (((e_1 : Int) ≠ 0) ∨ ((x_2 : Int) ≠ 0))))]) (fun _ => [blk b_4 28 [.slice A_3 n_1 c_3, .slice A_4 n_2 c_4, .slice A_5 l_2.length c_5], rd kBool A_2 c_2 l_1, rd kBool A_5 c_5 l_2, blk b_3 33 [.int .i64 u_1.kind, .int .i64 u_1.n, .slice A_1 u_1.kids.length c_1], rd kTree A_1 c_1 u_1.kids, blk b_2 28 [.slice QA q.length cq, .slice MA m.length cm1, .slice EA e.length ce], blk b_1 25 [.string nm, .slice CA cs.length cc, .slice OA no oc, .string cm], rd kContact CA cc cs, rd kBool IA ci inp, rd kBool QA cq q, rd kBool MA cm1 m, rd kBool EA ce e, cellsAt ⟨0, 0, none⟩ (loadsT.map (Value.int .i64)), cellsAt ⟨1, 0, none⟩ (joinsT.map (Value.int .i64)), cellsAt ⟨2, 0, none⟩ (popsT.map (Value.int .i64)), cellsAt (⟨3, 0, none⟩ : Addr) [.int .i64 11, .int .i64 12, .int .i64 13, .int .i64 14]]) (fun _ => True) ?_ ?_
     ·
      refine WC.region ?_
      refine WL.quiet (Qt.move rfl) rfl rfl ?_
      refine WL.quiet (Qt.neq rfl rfl) rfl rfl ?_
      refine WL.quiet (Qt.move rfl) rfl rfl ?_
      refine WL.splitD 63 rfl rfl (fun hg_4 => ?_) (fun hg_4 => ?_)
      ·
       refine WL.skipG 2 false true rfl 63 rfl rfl rfl rfl ?_
       refine WL.skipG 2 false true rfl 63 rfl rfl rfl rfl ?_
       refine WL.quiet (Qt.pickT rfl rfl) rfl rfl ?_
       refine WL.nil ?_
       exact WX.cut () trivial ⟨rfl, rfl, rfl, rfl, rfl, rfl, rfl, (by rw [show decide (((e_1 : Int) ≠ 0) ∨ ((x_2 : Int) ≠ 0)) = true from by first | (simp [hg_4]; done) | exact decide_eq_decide.2 (by omega) | exact decide_eq_true (by omega) | exact decide_eq_false (by omega) | (simp [hg_4] <;> omega)]; rfl), trivial⟩ (.take 0 rfl (.u 0 rfl (.u 1 rfl (.take 2 rfl (.u 2 rfl (.take 3 rfl (.take 3 rfl (.u 3 rfl (.u 4 rfl (.u 5 rfl (.u 6 rfl (.u 7 rfl (.u 8 rfl (.u 9 rfl (.u 10 rfl (.u 11 rfl (.nil)))))))))))))))))
      ·
       refine WL.quietG 2 false rfl 63 rfl rfl (Qt.move rfl) rfl ?_
       refine WL.quietG 2 false rfl 63 rfl rfl (Qt.neq rfl rfl) rfl ?_
       refine WL.quiet (Qt.pickF rfl rfl) rfl rfl ?_
       refine WL.nil ?_
       exact WX.cut () trivial ⟨rfl, rfl, rfl, rfl, rfl, rfl, rfl, (by rw [show decide (((e_1 : Int) ≠ 0) ∨ ((x_2 : Int) ≠ 0)) = (decide ((x_2 : Int) ≠ 0)) from by first | (simp [hg_4]; done) | exact decide_eq_decide.2 (by omega) | exact decide_eq_true (by omega) | exact decide_eq_false (by omega) | (simp [hg_4] <;> omega)]; rfl), trivial⟩ (.take 0 rfl (.u 0 rfl (.u 1 rfl (.take 2 rfl (.u 2 rfl (.take 3 rfl (.take 3 rfl (.u 3 rfl (.u 4 rfl (.u 5 rfl (.u 6 rfl (.u 7 rfl (.u 8 rfl (.u 9 rfl (.u 10 rfl (.u 11 rfl (.nil)))))))))))))))))
     ·
      intro _ _
      show WC _ _ _ _ _ _ [(1, .slice IA inp.length ci), (3, .pointer (some ⟨b_1, 0, none⟩)), (5, .pointer (some ⟨b_2, 0, none⟩)), (6, .bool false), (7, .pointer (some ⟨b_3, 0, none⟩)), (10, .pointer (some ⟨b_4, 0, none⟩)), (9, .slice A_2 l_1.length c_2), (66, .bool (decide (((e_1 : Int) ≠ 0) ∨ ((x_2 : Int) ≠ 0))))] [blk b_4 28 [.slice A_3 n_1 c_3, .slice A_4 n_2 c_4, .slice A_5 l_2.length c_5], rd kBool A_2 c_2 l_1, rd kBool A_5 c_5 l_2, blk b_3 33 [.int .i64 u_1.kind, .int .i64 u_1.n, .slice A_1 u_1.kids.length c_1], rd kTree A_1 c_1 u_1.kids, blk b_2 28 [.slice QA q.length cq, .slice MA m.length cm1, .slice EA e.length ce], blk b_1 25 [.string nm, .slice CA cs.length cc, .slice OA no oc, .string cm], rd kContact CA cc cs, rd kBool IA ci inp, rd kBool QA cq q, rd kBool MA cm1 m, rd kBool EA ce e, cellsAt ⟨0, 0, none⟩ (loadsT.map (Value.int .i64)), cellsAt ⟨1, 0, none⟩ (joinsT.map (Value.int .i64)), cellsAt ⟨2, 0, none⟩ (popsT.map (Value.int .i64)), cellsAt (⟨3, 0, none⟩ : Addr) [.int .i64 11, .int .i64 12, .int .i64 13, .int .i64 14]]
      refine WC.condD rfl (fun hc_2 => ?_) (fun hc_2 => ?_)
      ·
       refine WC.seq ?_
       refine WC.region ?_
       refine WL.call (.u 12 rfl (.u 13 rfl (.u 14 rfl (.u 15 rfl (.nil))))) (Cl.func cb5 rfl) (alive17W) trivial rfl ?_
       rintro _ _ ⟨rfl, rfl⟩
       refine WL.quiet (Qt.assign rfl) rfl rfl ?_
       refine WL.nil ?_
       refine WX.next ?_
       refine WC.ret ?_
       refine WX.pass_ret ?_
       refine WX.ret1 (.nil) rfl rfl ?_
       exact ⟨rfl, rfl⟩
      ·
       refine WC.skip ?_
       refine WX.next ?_
       refine WC.seq ?_
       have he0 : e_1 = 0 := by omega
       have hL : Law17 cs inp q m e l_1 l_2 u_1 := ⟨hI_1 (by omega), (red_some hred_1 he0).1, (red_some hred_1 he0).2, by omega⟩
       have hlen := hL.len
       refine WC.region ?_
       refine WL.quiet (Qt.loadBA 6 rfl ta25 ti25 rfl rfl) rfl rfl ?_
       refine WL.quiet (Qt.loadBA 3 rfl ta33 ti33 rfl rfl) rfl rfl ?_
       refine WL.call (.u 7 rfl (.u 4 rfl (.u 12 rfl (.u 13 rfl (.u 14 rfl (.nil)))))) (Cl.func cb8 rfl) (treeCodeW u_1 cs _ _ _ _ _ _ _ _ _ hL.vld hL.kinds (by omega)) trivial rfl ?_
       rintro _ _ ⟨A_6, c_6, rfl, rfl⟩
       refine WL.turn (.take 0 rfl (.nil)) (freeze_row) ?_
       rintro _ rfl
       refine WL.quiet (Qt.move rfl) rfl rfl ?_
       refine WL.quiet (Qt.extract rfl rfl) rfl rfl ?_
       refine WL.quiet (Qt.extract rfl rfl) rfl rfl ?_
       refine WL.quiet (Qt.assign rfl) rfl rfl ?_
       refine WL.quiet (Qt.assign rfl) rfl rfl ?_
       refine WL.nil ?_
       refine WX.next ?_
       refine WC.seq ?_
       refine WC.region ?_
       refine WL.quiet (Qt.loadBA 4 rfl ta33 ti33 rfl rfl) rfl rfl ?_
       refine WL.quiet (Qt.move rfl) rfl rfl ?_
       refine WL.call (.u 5 rfl (.u 2 rfl (.nil))) (Cl.func cb9 rfl) (treeEvalW u_1 l_1 _ _ _ _ hL.vldOn) trivial rfl ?_
       rintro _ _ ⟨rfl, rfl⟩
       refine WL.quiet (Qt.move rfl) rfl rfl ?_
       refine WL.quiet (Qt.extract rfl rfl) rfl rfl ?_
       refine WL.quiet (Qt.extract rfl rfl) rfl rfl ?_
       refine WL.quiet (Qt.assign rfl) rfl rfl ?_
       refine WL.quiet (Qt.assign rfl) rfl rfl ?_
       refine WL.nil ?_
       refine WX.next ?_
       refine WC.seq ?_
       refine WC.seq ?_
       refine WC.region ?_
       refine WL.quiet (Qt.move rfl) rfl rfl ?_
       refine WL.quiet (Qt.neq rfl rfl) rfl rfl ?_
       refine WL.quiet (Qt.move rfl) rfl rfl ?_
       refine WL.quietG 2 false rfl 82 rfl rfl (Qt.move rfl) rfl ?_
       refine WL.quietG 2 false rfl 82 rfl rfl (Qt.neq rfl rfl) rfl ?_
       refine WL.quiet (Qt.pickF rfl rfl) rfl rfl ?_
       refine WL.quiet (Qt.move rfl) rfl rfl ?_
       refine WL.quietG 6 false rfl 86 rfl rfl (Qt.move rfl) rfl ?_
       refine WL.quietG 6 false rfl 86 rfl rfl (Qt.lenS Tryz.underlying39 rfl) rfl ?_
       refine WL.quietG 6 false rfl 86 rfl rfl (Qt.fieldAddrB tf25_1 rfl) rfl ?_
       refine WL.quietG 6 false rfl 86 rfl rfl (Qt.loadB 7 rfl ta22 rfl rfl) rfl ?_
       refine WL.quietG 6 false rfl 86 rfl rfl (Qt.lenS Tryz.underlying22 rfl) rfl ?_
       refine WL.quietG 6 false rfl 86 rfl rfl (Qt.to (Qt.lss rfl rfl) (congrArg Value.bool (decide_eq_false (by omega)))) rfl ?_
       refine WL.quiet (Qt.pickF rfl rfl) rfl rfl ?_
       refine WL.quiet (Qt.move rfl) rfl rfl ?_
       refine WL.quietG 14 false rfl 94 rfl rfl (Qt.move rfl) rfl ?_
       refine WL.quietG 14 false rfl 94 rfl rfl (Qt.lenS Tryz.underlying39 rfl) rfl ?_
       refine WL.quietG 14 false rfl 94 rfl rfl (Qt.to (Qt.gtr rfl rfl) (congrArg Value.bool (decide_eq_false (by omega)))) rfl ?_
       refine WL.quiet (Qt.pickF rfl rfl) rfl rfl ?_
       refine WL.nil ?_
       refine WX.next ?_
       refine WC.no rfl ?_
       refine WC.skip ?_
       refine WX.next ?_
       refine WC.cut (fun w0 : Nat × (Option Addr) × Nat × (Option Addr) × Nat × (Option Addr) × Nat × (Option Addr) × Nat × (Option Addr) × Nat × Nat × (Option Addr) × Nat => [(6, .bool false), (10, .pointer (some ⟨b_4, 0, none⟩)), (12, .slice A_6 ((layC cs u_1).length) c_6), (14, .bool (evalT (evOn l_1) u_1)), (16, .pointer (some ⟨w0.1, 0, none⟩))]) (fun w0 => [blk w0.1 96 [.slice w0.2.1 ((layC cs u_1 ++ [Ins.mk 16 0 0 0]).length) w0.2.2.1, .slice w0.2.2.2.1 inp.length w0.2.2.2.2.1, .slice w0.2.2.2.2.2.1 q.length w0.2.2.2.2.2.2.1, .slice w0.2.2.2.2.2.2.2.1 m.length w0.2.2.2.2.2.2.2.2.1, .slice w0.2.2.2.2.2.2.2.2.2.1 e.length w0.2.2.2.2.2.2.2.2.2.2.1, .int .i64 0, .bool false, .pointer (some ⟨w0.2.2.2.2.2.2.2.2.2.2.2.1, 0, none⟩), .bool false, .int .i64 0], rd kIns w0.2.1 w0.2.2.1 (layC cs u_1 ++ [Ins.mk 16 0 0 0]), rd kBool w0.2.2.2.1 w0.2.2.2.2.1 inp, rd kBool w0.2.2.2.2.2.1 w0.2.2.2.2.2.2.1 q, rd kBool w0.2.2.2.2.2.2.2.1 w0.2.2.2.2.2.2.2.2.1 m, row kBool 4 w0.2.2.2.2.2.2.2.2.2.1 w0.2.2.2.2.2.2.2.2.2.2.1 e, blk w0.2.2.2.2.2.2.2.2.2.2.2.1 129 [.slice none 0 0, .int .i64 64, .int .i64 0], row kBool 4 none 0 [], rd kIns w0.2.2.2.2.2.2.2.2.2.2.2.2.1 w0.2.2.2.2.2.2.2.2.2.2.2.2.2 (layC cs u_1 ++ [Ins.mk 16 0 0 0]), rd kIns A_6 c_6 (layC cs u_1), blk b_4 28 [.slice A_3 n_1 c_3, .slice A_4 n_2 c_4, .slice A_5 l_2.length c_5], rd kBool A_2 c_2 l_1, rd kBool A_5 c_5 l_2, blk b_3 33 [.int .i64 u_1.kind, .int .i64 u_1.n, .slice A_1 u_1.kids.length c_1], rd kTree A_1 c_1 u_1.kids, blk b_2 28 [.slice QA q.length cq, .slice MA m.length cm1, .slice EA e.length ce], blk b_1 25 [.string nm, .slice CA cs.length cc, .slice OA no oc, .string cm], rd kContact CA cc cs, rd kBool IA ci inp, rd kBool QA cq q, rd kBool MA cm1 m, rd kBool EA ce e, cellsAt ⟨0, 0, none⟩ (loadsT.map (Value.int .i64)), cellsAt ⟨1, 0, none⟩ (joinsT.map (Value.int .i64)), cellsAt ⟨2, 0, none⟩ (popsT.map (Value.int .i64)), cellsAt (⟨3, 0, none⟩ : Addr) [.int .i64 11, .int .i64 12, .int .i64 13, .int .i64 14]]) (fun w0 => True) ?_ ?_
       ·
        refine WC.calm (Calm.then (calm_FQ _ _)) fun hC => ?_
        refine WC.draw (Γq := [rd kIns A_6 c_6 (layC cs u_1), blk b_4 28 [.slice A_3 n_1 c_3, .slice A_4 n_2 c_4, .slice A_5 l_2.length c_5], rd kBool A_2 c_2 l_1, rd kBool A_5 c_5 l_2, blk b_3 33 [.int .i64 u_1.kind, .int .i64 u_1.n, .slice A_1 u_1.kids.length c_1], rd kTree A_1 c_1 u_1.kids, blk b_2 28 [.slice QA q.length cq, .slice MA m.length cm1, .slice EA e.length ce], blk b_1 25 [.string nm, .slice CA cs.length cc, .slice OA no oc, .string cm], rd kContact CA cc cs, rd kBool IA ci inp, rd kBool QA cq q, rd kBool MA cm1 m, rd kBool EA ce e, cellsAt ⟨0, 0, none⟩ (loadsT.map (Value.int .i64)), cellsAt ⟨1, 0, none⟩ (joinsT.map (Value.int .i64)), cellsAt ⟨2, 0, none⟩ (popsT.map (Value.int .i64)), cellsAt (⟨3, 0, none⟩ : Addr) [.int .i64 11, .int .i64 12, .int .i64 13, .int .i64 14]]) [0, 1, 2, 3, 4, 5, 6, 7, 8] mixed ?_
        refine WA.named (.u 0 rfl (.take 1 rfl (.u 1 rfl (.u 2 rfl (.take 3 rfl (.u 3 rfl (.take 4 rfl (.take 4 rfl (.u 4 rfl (.u 5 rfl (.u 6 rfl (.u 7 rfl (.u 8 rfl (.u 9 rfl (.u 10 rfl (.u 11 rfl (.u 12 rfl (.nil)))))))))))))))))) fun sl_1 => ?_
        refine WA.tk 1 (by kernel_rfl) rfl hC (Qt.move rfl) trivial rfl sl_1 ?_
        refine WA.tk 3 (by kernel_rfl) rfl hC (Qt.build tp49 ti49 rfl rfl rfl) trivial rfl sl_1 ?_
        refine WA.tk 6 (by kernel_rfl) rfl hC (Qt.move rfl) trivial rfl sl_1 ?_
        refine WA.tk 7 (by kernel_rfl) rfl hC (Qt.loadBA 6 rfl ta28 ti28 rfl rfl) trivial rfl sl_1 ?_
        refine WA.two 0 4 (by kernel_rfl) ?_ ?_
        ·
         refine WO.loud rfl (.nil) (Ld.buildEmpty Tryz.underlying39 ti49) trivial rfl (by rintro _ _ ⟨b_5, rfl, rfl⟩; exact ⟨_, (.u 1 rfl (.take 2 rfl (.u 2 rfl (.u 3 rfl (.take 4 rfl (.u 4 rfl (.take 5 rfl (.take 5 rfl (.u 5 rfl (.u 6 rfl (.u 7 rfl (.u 8 rfl (.u 9 rfl (.u 10 rfl (.u 11 rfl (.u 12 rfl (.u 13 rfl (.nil))))))))))))))))))⟩) ?_
         rintro _ _ ⟨b_5, rfl, rfl⟩
         refine WA.turn (.take 0 rfl (.nil)) (blk_row (e := kIns) (U := []) [] (fun F hF => nomatch hF) (fun S w h => Reps.nil _ _ _) (by simp)) ?_
         rintro _ rfl
         refine WA.two 2 4 (by kernel_rfl) ?_ ?_
         ·
          refine WO.loud rfl (.take 0 rfl (.u 0 rfl (.nil))) (Ld.appendRd (e := kIns) (xs := []) (ys := (layC cs u_1)) Tryz.underlying39 ti49 rfl (by decide) (by decide) rfl rfl (by first | omega | (simp; omega))) trivial rfl (by rintro _ _ ⟨A_7, c_7, rfl, rfl⟩; exact ⟨_, (.u 1 rfl (.take 2 rfl (.u 2 rfl (.u 3 rfl (.take 4 rfl (.u 4 rfl (.take 5 rfl (.take 5 rfl (.u 5 rfl (.u 6 rfl (.u 7 rfl (.u 8 rfl (.u 9 rfl (.u 10 rfl (.u 11 rfl (.u 12 rfl (.u 13 rfl (.nil))))))))))))))))))⟩) ?_
          rintro _ _ ⟨A_7, c_7, rfl, rfl⟩
          refine WA.one 4 (by kernel_rfl) ?_
          refine WO.loud rfl (.nil) (Ld.buildSlice (zs := [.int .i64 0, .int .i64 0, .int .i64 0, .int .i64 0]) Tryz.underlying39 ti49 rfl rfl (by kernel_rfl) rfl rfl) trivial rfl (by rintro _ _ ⟨b_6, rfl, rfl⟩; exact ⟨_, (.u 2 rfl (.take 3 rfl (.u 3 rfl (.u 4 rfl (.take 5 rfl (.u 5 rfl (.take 6 rfl (.take 6 rfl (.u 6 rfl (.u 7 rfl (.u 8 rfl (.u 9 rfl (.u 10 rfl (.u 11 rfl (.u 12 rfl (.u 13 rfl (.u 14 rfl (.nil))))))))))))))))))⟩) ?_
          rintro _ _ ⟨b_6, rfl, rfl⟩
          refine WA.one 5 (by kernel_rfl) ?_
          refine WO.loud rfl (.take 1 rfl (.take 0 rfl (.nil))) (Ld.append1 (e := kIns) (xs := ([] ++ (layC cs u_1))) (Ins.mk 16 0 0 0) Tryz.underlying39 ti49 rfl (by decide) (by decide) rfl rfl (by first | omega | (simp; omega)) (fun S w h => rfl)) trivial rfl (by rintro _ _ ⟨A_8, c_8, rfl, rfl⟩; exact ⟨_, (.u 1 rfl (.take 2 rfl (.u 2 rfl (.u 3 rfl (.take 4 rfl (.u 4 rfl (.take 5 rfl (.take 5 rfl (.u 5 rfl (.u 6 rfl (.u 7 rfl (.u 8 rfl (.u 9 rfl (.u 10 rfl (.u 11 rfl (.u 12 rfl (.u 13 rfl (.nil))))))))))))))))))⟩) ?_
          rintro _ _ ⟨A_8, c_8, rfl, rfl⟩
          refine WA.turn (.take 0 rfl (.nil)) (freeze_row) ?_
          rintro _ rfl
          refine WA.one 8 (by kernel_rfl) ?_
          refine WO.call rfl (.u 0 rfl (.u 10 rfl (.u 11 rfl (.u 12 rfl (.u 13 rfl (.nil)))))) (Cl.func cb10 rfl) (newW (layC cs u_1 ++ [Ins.mk 16 0 0 0]) inp q m e _ _ _ _ _ _ _ _ _ _ (by simp only [List.length_append, List.length_cons, List.length_nil]; omega) (by omega) (by omega) (by omega) (by omega)) trivial rfl (by rintro _ _ ⟨b_7, b_8, A_9, c_9, A_10, c_10, A_11, c_11, A_12, c_12, A_13, c_13, rfl, rfl⟩; exact ⟨_, (.u 9 rfl (.take 10 rfl (.u 10 rfl (.u 11 rfl (.take 12 rfl (.u 12 rfl (.take 13 rfl (.take 13 rfl (.u 13 rfl (.u 14 rfl (.u 15 rfl (.u 16 rfl (.u 17 rfl (.u 18 rfl (.u 19 rfl (.u 20 rfl (.u 21 rfl (.nil))))))))))))))))))⟩) ?_
          rintro _ _ ⟨b_7, b_8, A_9, c_9, A_10, c_10, A_11, c_11, A_12, c_12, A_13, c_13, rfl, rfl⟩
          refine WA.phase (K' := [0, 1, 2, 3, 4, 5, 6, 7, 8, 9]) (Γq' := [blk b_7 96 [.slice A_9 ((layC cs u_1 ++ [Ins.mk 16 0 0 0]).length) c_9, .slice A_10 inp.length c_10, .slice A_11 q.length c_11, .slice A_12 m.length c_12, .slice A_13 e.length c_13, .int .i64 0, .bool false, .pointer (some ⟨b_8, 0, none⟩), .bool false, .int .i64 0], rd kIns A_9 c_9 (layC cs u_1 ++ [Ins.mk 16 0 0 0]), rd kBool A_10 c_10 inp, rd kBool A_11 c_11 q, rd kBool A_12 c_12 m, row kBool 4 A_13 c_13 e, blk b_8 129 [.slice none 0 0, .int .i64 64, .int .i64 0], row kBool 4 none 0 [], rd kIns A_8 c_8 (layC cs u_1 ++ [Ins.mk 16 0 0 0]), rd kIns A_6 c_6 (layC cs u_1), blk b_4 28 [.slice A_3 n_1 c_3, .slice A_4 n_2 c_4, .slice A_5 l_2.length c_5], rd kBool A_2 c_2 l_1, rd kBool A_5 c_5 l_2, blk b_3 33 [.int .i64 u_1.kind, .int .i64 u_1.n, .slice A_1 u_1.kids.length c_1], rd kTree A_1 c_1 u_1.kids, blk b_2 28 [.slice QA q.length cq, .slice MA m.length cm1, .slice EA e.length ce], blk b_1 25 [.string nm, .slice CA cs.length cc, .slice OA no oc, .string cm], rd kContact CA cc cs, rd kBool IA ci inp, rd kBool QA cq q, rd kBool MA cm1 m, rd kBool EA ce e, cellsAt ⟨0, 0, none⟩ (loadsT.map (Value.int .i64)), cellsAt ⟨1, 0, none⟩ (joinsT.map (Value.int .i64)), cellsAt ⟨2, 0, none⟩ (popsT.map (Value.int .i64)), cellsAt (⟨3, 0, none⟩ : Addr) [.int .i64 11, .int .i64 12, .int .i64 13, .int .i64 14]]) (by kernel_rfl) ?_
          refine WA.named (.take 0 rfl (.u 0 rfl (.u 1 rfl (.u 2 rfl (.u 3 rfl (.take 4 rfl (.take 4 rfl (.take 4 rfl (.u 4 rfl (.u 5 rfl (.take 6 rfl (.u 6 rfl (.u 7 rfl (.take 8 rfl (.u 8 rfl (.take 9 rfl (.take 9 rfl (.u 9 rfl (.u 10 rfl (.u 11 rfl (.u 12 rfl (.u 13 rfl (.u 14 rfl (.u 15 rfl (.u 16 rfl (.u 17 rfl (.nil))))))))))))))))))))))))))) fun sl_2 => ?_
          refine WA.tk 9 (by kernel_rfl) rfl hC (Qt.assign rfl) trivial rfl sl_2 ?_
          refine WA.done (by kernel_rfl) ?_
          exact WX.cut (b_7, A_9, c_9, A_10, c_10, A_11, c_11, A_12, c_12, A_13, c_13, b_8, A_8, c_8) trivial ⟨rfl, rfl, rfl, rfl, rfl, trivial⟩ (.take 0 rfl (.u 0 rfl (.u 1 rfl (.u 2 rfl (.u 3 rfl (.take 4 rfl (.take 4 rfl (.take 4 rfl (.u 4 rfl (.u 5 rfl (.take 6 rfl (.u 6 rfl (.u 7 rfl (.take 8 rfl (.u 8 rfl (.take 9 rfl (.take 9 rfl (.u 9 rfl (.u 10 rfl (.u 11 rfl (.u 12 rfl (.u 13 rfl (.u 14 rfl (.u 15 rfl (.u 16 rfl (.u 17 rfl (.nil)))))))))))))))))))))))))))
         ·
          refine WO.loud rfl (.nil) (Ld.buildSlice (zs := [.int .i64 0, .int .i64 0, .int .i64 0, .int .i64 0]) Tryz.underlying39 ti49 rfl rfl (by kernel_rfl) rfl rfl) trivial rfl (by rintro _ _ ⟨b_9, rfl, rfl⟩; exact ⟨_, (.u 2 rfl (.take 3 rfl (.u 3 rfl (.u 4 rfl (.take 5 rfl (.u 5 rfl (.take 6 rfl (.take 6 rfl (.u 6 rfl (.u 7 rfl (.u 8 rfl (.u 9 rfl (.u 10 rfl (.u 11 rfl (.u 12 rfl (.u 13 rfl (.u 14 rfl (.nil))))))))))))))))))⟩) ?_
          rintro _ _ ⟨b_9, rfl, rfl⟩
          refine WA.one 2 (by kernel_rfl) ?_
          refine WO.loud rfl (.take 1 rfl (.u 1 rfl (.nil))) (Ld.appendRd (e := kIns) (xs := []) (ys := (layC cs u_1)) Tryz.underlying39 ti49 rfl (by decide) (by decide) rfl rfl (by first | omega | (simp; omega))) trivial rfl (by rintro _ _ ⟨A_14, c_14, rfl, rfl⟩; exact ⟨_, (.u 2 rfl (.take 3 rfl (.u 3 rfl (.u 4 rfl (.take 5 rfl (.u 5 rfl (.take 6 rfl (.take 6 rfl (.u 6 rfl (.u 7 rfl (.u 8 rfl (.u 9 rfl (.u 10 rfl (.u 11 rfl (.u 12 rfl (.u 13 rfl (.u 14 rfl (.nil))))))))))))))))))⟩) ?_
          rintro _ _ ⟨A_14, c_14, rfl, rfl⟩
          refine WA.one 5 (by kernel_rfl) ?_
          refine WO.loud rfl (.take 0 rfl (.take 0 rfl (.nil))) (Ld.append1 (e := kIns) (xs := ([] ++ (layC cs u_1))) (Ins.mk 16 0 0 0) Tryz.underlying39 ti49 rfl (by decide) (by decide) rfl rfl (by first | omega | (simp; omega)) (fun S w h => rfl)) trivial rfl (by rintro _ _ ⟨A_15, c_15, rfl, rfl⟩; exact ⟨_, (.u 1 rfl (.take 2 rfl (.u 2 rfl (.u 3 rfl (.take 4 rfl (.u 4 rfl (.take 5 rfl (.take 5 rfl (.u 5 rfl (.u 6 rfl (.u 7 rfl (.u 8 rfl (.u 9 rfl (.u 10 rfl (.u 11 rfl (.u 12 rfl (.u 13 rfl (.nil))))))))))))))))))⟩) ?_
          rintro _ _ ⟨A_15, c_15, rfl, rfl⟩
          refine WA.turn (.take 0 rfl (.nil)) (freeze_row) ?_
          rintro _ rfl
          refine WA.one 8 (by kernel_rfl) ?_
          refine WO.call rfl (.u 0 rfl (.u 10 rfl (.u 11 rfl (.u 12 rfl (.u 13 rfl (.nil)))))) (Cl.func cb10 rfl) (newW (layC cs u_1 ++ [Ins.mk 16 0 0 0]) inp q m e _ _ _ _ _ _ _ _ _ _ (by simp only [List.length_append, List.length_cons, List.length_nil]; omega) (by omega) (by omega) (by omega) (by omega)) trivial rfl (by rintro _ _ ⟨b_10, b_11, A_16, c_16, A_17, c_17, A_18, c_18, A_19, c_19, A_20, c_20, rfl, rfl⟩; exact ⟨_, (.u 9 rfl (.take 10 rfl (.u 10 rfl (.u 11 rfl (.take 12 rfl (.u 12 rfl (.take 13 rfl (.take 13 rfl (.u 13 rfl (.u 14 rfl (.u 15 rfl (.u 16 rfl (.u 17 rfl (.u 18 rfl (.u 19 rfl (.u 20 rfl (.u 21 rfl (.nil))))))))))))))))))⟩) ?_
          rintro _ _ ⟨b_10, b_11, A_16, c_16, A_17, c_17, A_18, c_18, A_19, c_19, A_20, c_20, rfl, rfl⟩
          refine WA.phase (K' := [0, 1, 2, 3, 4, 5, 6, 7, 8, 9]) (Γq' := [blk b_10 96 [.slice A_16 ((layC cs u_1 ++ [Ins.mk 16 0 0 0]).length) c_16, .slice A_17 inp.length c_17, .slice A_18 q.length c_18, .slice A_19 m.length c_19, .slice A_20 e.length c_20, .int .i64 0, .bool false, .pointer (some ⟨b_11, 0, none⟩), .bool false, .int .i64 0], rd kIns A_16 c_16 (layC cs u_1 ++ [Ins.mk 16 0 0 0]), rd kBool A_17 c_17 inp, rd kBool A_18 c_18 q, rd kBool A_19 c_19 m, row kBool 4 A_20 c_20 e, blk b_11 129 [.slice none 0 0, .int .i64 64, .int .i64 0], row kBool 4 none 0 [], rd kIns A_15 c_15 (layC cs u_1 ++ [Ins.mk 16 0 0 0]), rd kIns A_6 c_6 (layC cs u_1), blk b_4 28 [.slice A_3 n_1 c_3, .slice A_4 n_2 c_4, .slice A_5 l_2.length c_5], rd kBool A_2 c_2 l_1, rd kBool A_5 c_5 l_2, blk b_3 33 [.int .i64 u_1.kind, .int .i64 u_1.n, .slice A_1 u_1.kids.length c_1], rd kTree A_1 c_1 u_1.kids, blk b_2 28 [.slice QA q.length cq, .slice MA m.length cm1, .slice EA e.length ce], blk b_1 25 [.string nm, .slice CA cs.length cc, .slice OA no oc, .string cm], rd kContact CA cc cs, rd kBool IA ci inp, rd kBool QA cq q, rd kBool MA cm1 m, rd kBool EA ce e, cellsAt ⟨0, 0, none⟩ (loadsT.map (Value.int .i64)), cellsAt ⟨1, 0, none⟩ (joinsT.map (Value.int .i64)), cellsAt ⟨2, 0, none⟩ (popsT.map (Value.int .i64)), cellsAt (⟨3, 0, none⟩ : Addr) [.int .i64 11, .int .i64 12, .int .i64 13, .int .i64 14]]) (by kernel_rfl) ?_
          refine WA.named (.take 0 rfl (.u 0 rfl (.u 1 rfl (.u 2 rfl (.u 3 rfl (.take 4 rfl (.take 4 rfl (.take 4 rfl (.u 4 rfl (.u 5 rfl (.take 6 rfl (.u 6 rfl (.u 7 rfl (.take 8 rfl (.u 8 rfl (.take 9 rfl (.take 9 rfl (.u 9 rfl (.u 10 rfl (.u 11 rfl (.u 12 rfl (.u 13 rfl (.u 14 rfl (.u 15 rfl (.u 16 rfl (.u 17 rfl (.nil))))))))))))))))))))))))))) fun sl_3 => ?_
          refine WA.tk 9 (by kernel_rfl) rfl hC (Qt.assign rfl) trivial rfl sl_3 ?_
          refine WA.done (by kernel_rfl) ?_
          exact WX.cut (b_10, A_16, c_16, A_17, c_17, A_18, c_18, A_19, c_19, A_20, c_20, b_11, A_15, c_15) trivial ⟨rfl, rfl, rfl, rfl, rfl, trivial⟩ (.take 0 rfl (.u 0 rfl (.u 1 rfl (.u 2 rfl (.u 3 rfl (.take 4 rfl (.take 4 rfl (.take 4 rfl (.u 4 rfl (.u 5 rfl (.take 6 rfl (.u 6 rfl (.u 7 rfl (.take 8 rfl (.u 8 rfl (.take 9 rfl (.take 9 rfl (.u 9 rfl (.u 10 rfl (.u 11 rfl (.u 12 rfl (.u 13 rfl (.u 14 rfl (.u 15 rfl (.u 16 rfl (.u 17 rfl (.nil)))))))))))))))))))))))))))
        ·
         refine WO.loud rfl (.nil) (Ld.buildSlice (zs := [.int .i64 0, .int .i64 0, .int .i64 0, .int .i64 0]) Tryz.underlying39 ti49 rfl rfl (by kernel_rfl) rfl rfl) trivial rfl (by rintro _ _ ⟨b_12, rfl, rfl⟩; exact ⟨_, (.u 1 rfl (.take 2 rfl (.u 2 rfl (.u 3 rfl (.take 4 rfl (.u 4 rfl (.take 5 rfl (.take 5 rfl (.u 5 rfl (.u 6 rfl (.u 7 rfl (.u 8 rfl (.u 9 rfl (.u 10 rfl (.u 11 rfl (.u 12 rfl (.u 13 rfl (.nil))))))))))))))))))⟩) ?_
         rintro _ _ ⟨b_12, rfl, rfl⟩
         refine WA.one 0 (by kernel_rfl) ?_
         refine WO.loud rfl (.nil) (Ld.buildEmpty Tryz.underlying39 ti49) trivial rfl (by rintro _ _ ⟨b_13, rfl, rfl⟩; exact ⟨_, (.u 2 rfl (.take 3 rfl (.u 3 rfl (.u 4 rfl (.take 5 rfl (.u 5 rfl (.take 6 rfl (.take 6 rfl (.u 6 rfl (.u 7 rfl (.u 8 rfl (.u 9 rfl (.u 10 rfl (.u 11 rfl (.u 12 rfl (.u 13 rfl (.u 14 rfl (.nil))))))))))))))))))⟩) ?_
         rintro _ _ ⟨b_13, rfl, rfl⟩
         refine WA.turn (.take 0 rfl (.nil)) (blk_row (e := kIns) (U := []) [] (fun F hF => nomatch hF) (fun S w h => Reps.nil _ _ _) (by simp)) ?_
         rintro _ rfl
         refine WA.one 2 (by kernel_rfl) ?_
         refine WO.loud rfl (.take 0 rfl (.u 1 rfl (.nil))) (Ld.appendRd (e := kIns) (xs := []) (ys := (layC cs u_1)) Tryz.underlying39 ti49 rfl (by decide) (by decide) rfl rfl (by first | omega | (simp; omega))) trivial rfl (by rintro _ _ ⟨A_21, c_21, rfl, rfl⟩; exact ⟨_, (.u 2 rfl (.take 3 rfl (.u 3 rfl (.u 4 rfl (.take 5 rfl (.u 5 rfl (.take 6 rfl (.take 6 rfl (.u 6 rfl (.u 7 rfl (.u 8 rfl (.u 9 rfl (.u 10 rfl (.u 11 rfl (.u 12 rfl (.u 13 rfl (.u 14 rfl (.nil))))))))))))))))))⟩) ?_
         rintro _ _ ⟨A_21, c_21, rfl, rfl⟩
         refine WA.one 5 (by kernel_rfl) ?_
         refine WO.loud rfl (.take 0 rfl (.take 0 rfl (.nil))) (Ld.append1 (e := kIns) (xs := ([] ++ (layC cs u_1))) (Ins.mk 16 0 0 0) Tryz.underlying39 ti49 rfl (by decide) (by decide) rfl rfl (by first | omega | (simp; omega)) (fun S w h => rfl)) trivial rfl (by rintro _ _ ⟨A_22, c_22, rfl, rfl⟩; exact ⟨_, (.u 1 rfl (.take 2 rfl (.u 2 rfl (.u 3 rfl (.take 4 rfl (.u 4 rfl (.take 5 rfl (.take 5 rfl (.u 5 rfl (.u 6 rfl (.u 7 rfl (.u 8 rfl (.u 9 rfl (.u 10 rfl (.u 11 rfl (.u 12 rfl (.u 13 rfl (.nil))))))))))))))))))⟩) ?_
         rintro _ _ ⟨A_22, c_22, rfl, rfl⟩
         refine WA.turn (.take 0 rfl (.nil)) (freeze_row) ?_
         rintro _ rfl
         refine WA.one 8 (by kernel_rfl) ?_
         refine WO.call rfl (.u 0 rfl (.u 10 rfl (.u 11 rfl (.u 12 rfl (.u 13 rfl (.nil)))))) (Cl.func cb10 rfl) (newW (layC cs u_1 ++ [Ins.mk 16 0 0 0]) inp q m e _ _ _ _ _ _ _ _ _ _ (by simp only [List.length_append, List.length_cons, List.length_nil]; omega) (by omega) (by omega) (by omega) (by omega)) trivial rfl (by rintro _ _ ⟨b_14, b_15, A_23, c_23, A_24, c_24, A_25, c_25, A_26, c_26, A_27, c_27, rfl, rfl⟩; exact ⟨_, (.u 9 rfl (.take 10 rfl (.u 10 rfl (.u 11 rfl (.take 12 rfl (.u 12 rfl (.take 13 rfl (.take 13 rfl (.u 13 rfl (.u 14 rfl (.u 15 rfl (.u 16 rfl (.u 17 rfl (.u 18 rfl (.u 19 rfl (.u 20 rfl (.u 21 rfl (.nil))))))))))))))))))⟩) ?_
         rintro _ _ ⟨b_14, b_15, A_23, c_23, A_24, c_24, A_25, c_25, A_26, c_26, A_27, c_27, rfl, rfl⟩
         refine WA.phase (K' := [0, 1, 2, 3, 4, 5, 6, 7, 8, 9]) (Γq' := [blk b_14 96 [.slice A_23 ((layC cs u_1 ++ [Ins.mk 16 0 0 0]).length) c_23, .slice A_24 inp.length c_24, .slice A_25 q.length c_25, .slice A_26 m.length c_26, .slice A_27 e.length c_27, .int .i64 0, .bool false, .pointer (some ⟨b_15, 0, none⟩), .bool false, .int .i64 0], rd kIns A_23 c_23 (layC cs u_1 ++ [Ins.mk 16 0 0 0]), rd kBool A_24 c_24 inp, rd kBool A_25 c_25 q, rd kBool A_26 c_26 m, row kBool 4 A_27 c_27 e, blk b_15 129 [.slice none 0 0, .int .i64 64, .int .i64 0], row kBool 4 none 0 [], rd kIns A_22 c_22 (layC cs u_1 ++ [Ins.mk 16 0 0 0]), rd kIns A_6 c_6 (layC cs u_1), blk b_4 28 [.slice A_3 n_1 c_3, .slice A_4 n_2 c_4, .slice A_5 l_2.length c_5], rd kBool A_2 c_2 l_1, rd kBool A_5 c_5 l_2, blk b_3 33 [.int .i64 u_1.kind, .int .i64 u_1.n, .slice A_1 u_1.kids.length c_1], rd kTree A_1 c_1 u_1.kids, blk b_2 28 [.slice QA q.length cq, .slice MA m.length cm1, .slice EA e.length ce], blk b_1 25 [.string nm, .slice CA cs.length cc, .slice OA no oc, .string cm], rd kContact CA cc cs, rd kBool IA ci inp, rd kBool QA cq q, rd kBool MA cm1 m, rd kBool EA ce e, cellsAt ⟨0, 0, none⟩ (loadsT.map (Value.int .i64)), cellsAt ⟨1, 0, none⟩ (joinsT.map (Value.int .i64)), cellsAt ⟨2, 0, none⟩ (popsT.map (Value.int .i64)), cellsAt (⟨3, 0, none⟩ : Addr) [.int .i64 11, .int .i64 12, .int .i64 13, .int .i64 14]]) (by kernel_rfl) ?_
         refine WA.named (.take 0 rfl (.u 0 rfl (.u 1 rfl (.u 2 rfl (.u 3 rfl (.take 4 rfl (.take 4 rfl (.take 4 rfl (.u 4 rfl (.u 5 rfl (.take 6 rfl (.u 6 rfl (.u 7 rfl (.take 8 rfl (.u 8 rfl (.take 9 rfl (.take 9 rfl (.u 9 rfl (.u 10 rfl (.u 11 rfl (.u 12 rfl (.u 13 rfl (.u 14 rfl (.u 15 rfl (.u 16 rfl (.u 17 rfl (.nil))))))))))))))))))))))))))) fun sl_4 => ?_
         refine WA.tk 9 (by kernel_rfl) rfl hC (Qt.assign rfl) trivial rfl sl_4 ?_
         refine WA.done (by kernel_rfl) ?_
         exact WX.cut (b_14, A_23, c_23, A_24, c_24, A_25, c_25, A_26, c_26, A_27, c_27, b_15, A_22, c_22) trivial ⟨rfl, rfl, rfl, rfl, rfl, trivial⟩ (.take 0 rfl (.u 0 rfl (.u 1 rfl (.u 2 rfl (.u 3 rfl (.take 4 rfl (.take 4 rfl (.take 4 rfl (.u 4 rfl (.u 5 rfl (.take 6 rfl (.u 6 rfl (.u 7 rfl (.take 8 rfl (.u 8 rfl (.take 9 rfl (.take 9 rfl (.u 9 rfl (.u 10 rfl (.u 11 rfl (.u 12 rfl (.u 13 rfl (.u 14 rfl (.u 15 rfl (.u 16 rfl (.u 17 rfl (.nil)))))))))))))))))))))))))))
       ·
        rintro ⟨b_7, A_9, c_9, A_10, c_10, A_11, c_11, A_12, c_12, A_13, c_13, b_8, A_8, c_8⟩ _
        show WC _ _ _ _ _ _ [(6, .bool false), (10, .pointer (some ⟨b_4, 0, none⟩)), (12, .slice A_6 ((layC cs u_1).length) c_6), (14, .bool (evalT (evOn l_1) u_1)), (16, .pointer (some ⟨b_7, 0, none⟩))] [blk b_7 96 [.slice A_9 ((layC cs u_1 ++ [Ins.mk 16 0 0 0]).length) c_9, .slice A_10 inp.length c_10, .slice A_11 q.length c_11, .slice A_12 m.length c_12, .slice A_13 e.length c_13, .int .i64 0, .bool false, .pointer (some ⟨b_8, 0, none⟩), .bool false, .int .i64 0], rd kIns A_9 c_9 (layC cs u_1 ++ [Ins.mk 16 0 0 0]), rd kBool A_10 c_10 inp, rd kBool A_11 c_11 q, rd kBool A_12 c_12 m, row kBool 4 A_13 c_13 e, blk b_8 129 [.slice none 0 0, .int .i64 64, .int .i64 0], row kBool 4 none 0 [], rd kIns A_8 c_8 (layC cs u_1 ++ [Ins.mk 16 0 0 0]), rd kIns A_6 c_6 (layC cs u_1), blk b_4 28 [.slice A_3 n_1 c_3, .slice A_4 n_2 c_4, .slice A_5 l_2.length c_5], rd kBool A_2 c_2 l_1, rd kBool A_5 c_5 l_2, blk b_3 33 [.int .i64 u_1.kind, .int .i64 u_1.n, .slice A_1 u_1.kids.length c_1], rd kTree A_1 c_1 u_1.kids, blk b_2 28 [.slice QA q.length cq, .slice MA m.length cm1, .slice EA e.length ce], blk b_1 25 [.string nm, .slice CA cs.length cc, .slice OA no oc, .string cm], rd kContact CA cc cs, rd kBool IA ci inp, rd kBool QA cq q, rd kBool MA cm1 m, rd kBool EA ce e, cellsAt ⟨0, 0, none⟩ (loadsT.map (Value.int .i64)), cellsAt ⟨1, 0, none⟩ (joinsT.map (Value.int .i64)), cellsAt ⟨2, 0, none⟩ (popsT.map (Value.int .i64)), cellsAt (⟨3, 0, none⟩ : Addr) [.int .i64 11, .int .i64 12, .int .i64 13, .int .i64 14]]
        refine WC.seq ?_
        refine WC.seq ?_
        refine WC.region ?_
        refine WL.quiet (Qt.move rfl) rfl rfl ?_
        refine WL.quiet (Qt.ptrNil Tryz.underlying44 rfl) rfl rfl ?_
        refine WL.nil ?_
        refine WX.next ?_
        refine WC.no rfl ?_
        refine WC.skip ?_
        refine WX.next ?_
        refine WC.seq ?_
        refine WC.seq ?_
        refine WC.region ?_
        refine WL.quiet (Qt.move rfl) rfl rfl ?_
        refine WL.quiet (Qt.lenS Tryz.underlying39 rfl) rfl rfl ?_
        refine WL.quiet (Qt.add rfl rfl (by omega)) rfl rfl ?_
        refine WL.quiet (Qt.move rfl) rfl rfl ?_
        refine WL.nil ?_
        refine WX.next ?_
        refine WC.block ?_
        refine WC.loop (fun w0 : Nat × MS × (Option Addr) × Nat × (Option Addr) × Nat × Int => [(6, .bool false), (10, .pointer (some ⟨b_4, 0, none⟩)), (14, .bool (evalT (evOn l_1) u_1)), (16, .pointer (some ⟨b_7, 0, none⟩)), (112, .int .i64 ((((layC cs u_1).length : Nat) : Int) + 1)), (113, .int .i64 ((w0.1 : Nat) : Int))]) (fun w0 => [blk b_7 96 [.slice A_9 ((layC cs u_1 ++ [Ins.mk 16 0 0 0]).length) c_9, .slice A_10 inp.length c_10, .slice A_11 q.length c_11, .slice A_12 m.length c_12, .slice w0.2.2.1 w0.2.1.E.length w0.2.2.2.1, .int .i64 ((w0.1 : Nat) : Int), .bool w0.2.1.acc, .pointer (some ⟨b_8, 0, none⟩), .bool false, .int .i64 0], rd kIns A_9 c_9 (layC cs u_1 ++ [Ins.mk 16 0 0 0]), rd kBool A_10 c_10 inp, rd kBool A_11 c_11 q, rd kBool A_12 c_12 m, row kBool 4 w0.2.2.1 w0.2.2.2.1 w0.2.1.E, blk b_8 129 [.slice w0.2.2.2.2.1 w0.2.1.stk.length w0.2.2.2.2.2.1, .int .i64 64, .int .i64 w0.2.2.2.2.2.2], row kBool 4 w0.2.2.2.2.1 w0.2.2.2.2.2.1 w0.2.1.stk, rd kIns A_8 c_8 (layC cs u_1 ++ [Ins.mk 16 0 0 0]), rd kIns A_6 c_6 (layC cs u_1), blk b_4 28 [.slice A_3 n_1 c_3, .slice A_4 n_2 c_4, .slice A_5 l_2.length c_5], rd kBool A_2 c_2 l_1, rd kBool A_5 c_5 l_2, blk b_3 33 [.int .i64 u_1.kind, .int .i64 u_1.n, .slice A_1 u_1.kids.length c_1], rd kTree A_1 c_1 u_1.kids, blk b_2 28 [.slice QA q.length cq, .slice MA m.length cm1, .slice EA e.length ce], blk b_1 25 [.string nm, .slice CA cs.length cc, .slice OA no oc, .string cm], rd kContact CA cc cs, rd kBool IA ci inp, rd kBool QA cq q, rd kBool MA cm1 m, rd kBool EA ce e, cellsAt ⟨0, 0, none⟩ (loadsT.map (Value.int .i64)), cellsAt ⟨1, 0, none⟩ (joinsT.map (Value.int .i64)), cellsAt ⟨2, 0, none⟩ (popsT.map (Value.int .i64)), cellsAt (⟨3, 0, none⟩ : Addr) [.int .i64 11, .int .i64 12, .int .i64 13, .int .i64 14]]) (fun w0 => w0.1 ≤ (layC cs u_1).length ∧ (Bits.mk inp q m).run ((layC cs u_1).take w0.1) ⟨false, [], e⟩ = some w0.2.1) (fun w0 => (layC cs u_1).length + 1 - w0.1) (0, MS.mk false [] e, A_13, c_13, none, 0, 0) ⟨Nat.zero_le _, rfl⟩ ⟨rfl, rfl, rfl, rfl, rfl, rfl, trivial⟩ (.take 0 rfl (.u 0 rfl (.u 1 rfl (.u 2 rfl (.u 3 rfl (.take 4 rfl (.take 4 rfl (.take 4 rfl (.u 4 rfl (.u 5 rfl (.take 6 rfl (.u 6 rfl (.u 7 rfl (.take 8 rfl (.u 8 rfl (.take 9 rfl (.take 9 rfl (.u 9 rfl (.u 10 rfl (.u 11 rfl (.u 12 rfl (.u 13 rfl (.u 14 rfl (.u 15 rfl (.u 16 rfl (.u 17 rfl (.nil))))))))))))))))))))))))))) ?_
        rintro ⟨k, s, E1, e1, S1, t1, mx⟩ ⟨hk, hs⟩
        try dsimp only at hk hs
        show WC _ _ _ _ _ _ [(6, .bool false), (10, .pointer (some ⟨b_4, 0, none⟩)), (14, .bool (evalT (evOn l_1) u_1)), (16, .pointer (some ⟨b_7, 0, none⟩)), (112, .int .i64 ((((layC cs u_1).length : Nat) : Int) + 1)), (113, .int .i64 ((k : Nat) : Int))] [blk b_7 96 [.slice A_9 ((layC cs u_1 ++ [Ins.mk 16 0 0 0]).length) c_9, .slice A_10 inp.length c_10, .slice A_11 q.length c_11, .slice A_12 m.length c_12, .slice E1 s.E.length e1, .int .i64 ((k : Nat) : Int), .bool s.acc, .pointer (some ⟨b_8, 0, none⟩), .bool false, .int .i64 0], rd kIns A_9 c_9 (layC cs u_1 ++ [Ins.mk 16 0 0 0]), rd kBool A_10 c_10 inp, rd kBool A_11 c_11 q, rd kBool A_12 c_12 m, row kBool 4 E1 e1 s.E, blk b_8 129 [.slice S1 s.stk.length t1, .int .i64 64, .int .i64 mx], row kBool 4 S1 t1 s.stk, rd kIns A_8 c_8 (layC cs u_1 ++ [Ins.mk 16 0 0 0]), rd kIns A_6 c_6 (layC cs u_1), blk b_4 28 [.slice A_3 n_1 c_3, .slice A_4 n_2 c_4, .slice A_5 l_2.length c_5], rd kBool A_2 c_2 l_1, rd kBool A_5 c_5 l_2, blk b_3 33 [.int .i64 u_1.kind, .int .i64 u_1.n, .slice A_1 u_1.kids.length c_1], rd kTree A_1 c_1 u_1.kids, blk b_2 28 [.slice QA q.length cq, .slice MA m.length cm1, .slice EA e.length ce], blk b_1 25 [.string nm, .slice CA cs.length cc, .slice OA no oc, .string cm], rd kContact CA cc cs, rd kBool IA ci inp, rd kBool QA cq q, rd kBool MA cm1 m, rd kBool EA ce e, cellsAt ⟨0, 0, none⟩ (loadsT.map (Value.int .i64)), cellsAt ⟨1, 0, none⟩ (joinsT.map (Value.int .i64)), cellsAt ⟨2, 0, none⟩ (popsT.map (Value.int .i64)), cellsAt (⟨3, 0, none⟩ : Addr) [.int .i64 11, .int .i64 12, .int .i64 13, .int .i64 14]]
        refine WC.seq ?_
        refine WC.region ?_
        refine WL.quiet (Qt.lss rfl rfl) rfl rfl ?_
        refine WL.nil ?_
        refine WX.next ?_
        refine WC.seq ?_
        refine WC.condD rfl (fun hc_3 => ?_) (fun hc_3 => ?_)
        ·
         refine WC.skip ?_
         refine WX.next ?_
         refine WC.seq ?_
         refine WC.block ?_
         rcases Nat.lt_or_ge k (layC cs u_1).length with hkn | hkn
         ·
          have hxl : (layC cs u_1 ++ [Ins.mk 16 0 0 0]).length = (layC cs u_1).length + 1 := by simp
          have hkx : k < (layC cs u_1 ++ [Ins.mk 16 0 0 0]).length := by omega
          obtain ⟨s0, s1, hs0, hx0, hs1⟩ := run_at hL.run k hkn
          have he : s = s0 := by rw [hs0] at hs; injection hs with hs; exact hs.symm
          subst he
          have hx : (Bits.mk inp q m).exec (layC cs u_1 ++ [Ins.mk 16 0 0 0])[k] s = some s1 := by rw [snoc_lt hkn hkx]; exact hx0
          refine WC.seq ?_
          refine WC.region ?_
          refine WL.quiet (Qt.move rfl) rfl rfl ?_
          refine WL.call (.take 0 rfl (.u 0 rfl (.u 1 rfl (.u 2 rfl (.u 3 rfl (.take 4 rfl (.take 4 rfl (.take 4 rfl (.nil))))))))) (Cl.func cb11 rfl) (stepW (layC cs u_1 ++ [Ins.mk 16 0 0 0]) inp q m _ _ _ _ _ _ _ _ _ _ _ _ _ s s1 _ _ _ (by omega) (by omega) hx) trivial rfl ?_
          rintro _ _ ⟨A_28, c_28, A_29, c_29, mx_1, rfl, rfl⟩
          refine WL.quiet (Qt.move rfl) rfl rfl ?_
          refine WL.quiet (Qt.extract rfl rfl) rfl rfl ?_
          refine WL.quiet (Qt.extract rfl rfl) rfl rfl ?_
          refine WL.quiet (Qt.assign rfl) rfl rfl ?_
          refine WL.quiet (Qt.assign rfl) rfl rfl ?_
          refine WL.nil ?_
          refine WX.next ?_
          refine WC.seq ?_
          refine WC.seq ?_
          refine WC.region ?_
          refine WL.quiet (Qt.move rfl) rfl rfl ?_
          refine WL.quiet (Qt.neq rfl rfl) rfl rfl ?_
          refine WL.nil ?_
          refine WX.next ?_
          refine WC.no rfl ?_
          refine WC.skip ?_
          refine WX.next ?_
          refine WC.seq ?_
          refine WC.region ?_
          refine WL.quiet (Qt.move rfl) rfl rfl ?_
          refine WL.quiet (Qt.not rfl) rfl rfl ?_
          refine WL.nil ?_
          refine WX.next ?_
          refine WC.no rfl ?_
          refine WC.skip ?_
          refine WX.block_end ?_
          refine WX.next ?_
          refine WC.region ?_
          refine WL.quiet (Qt.add rfl rfl (by omega)) rfl rfl ?_
          refine WL.quiet (Qt.move rfl) rfl rfl ?_
          refine WL.nil ?_
          exact WX.back (k + 1, s1, A_28, c_28, A_29, c_29, mx_1) ⟨by omega, hs1⟩ (by first | omega | (dsimp only; omega) | (simp; omega)) ⟨rfl, rfl, rfl, rfl, rfl, rfl, trivial⟩ (.take 0 rfl (.u 3 rfl (.u 4 rfl (.u 5 rfl (.u 6 rfl (.take 0 rfl (.take 0 rfl (.take 0 rfl (.u 4 rfl (.u 5 rfl (.take 6 rfl (.u 6 rfl (.u 7 rfl (.take 8 rfl (.u 8 rfl (.take 9 rfl (.take 9 rfl (.u 9 rfl (.u 10 rfl (.u 11 rfl (.u 12 rfl (.u 13 rfl (.u 14 rfl (.u 15 rfl (.u 16 rfl (.u 17 rfl (.nil)))))))))))))))))))))))))))
         ·
          have hxl : (layC cs u_1 ++ [Ins.mk 16 0 0 0]).length = (layC cs u_1).length + 1 := by simp
          have hkx : k < (layC cs u_1 ++ [Ins.mk 16 0 0 0]).length := by omega
          have hkn : k = (layC cs u_1).length := by omega
          have hop : (layC cs u_1 ++ [Ins.mk 16 0 0 0])[k].op = 16 := by rw [snoc_end hkn hkx]
          have hfin := fin_eq hL.run hkn hs
          have hacc : s.acc = evalT (evOn l_1) u_1 := by rw [hfin]
          have hstk : s.stk = [] := by rw [hfin]
          have hEE : s.E = l_2 := by rw [hfin]
          have hEl : s.E.length = e.length := by rw [hEE]; exact hL.ref.len.2
          refine WC.seq ?_
          refine WC.region ?_
          refine WL.quiet (Qt.move rfl) rfl rfl ?_
          refine WL.call (.take 0 rfl (.u 0 rfl (.u 1 rfl (.u 2 rfl (.u 3 rfl (.take 4 rfl (.take 4 rfl (.take 4 rfl (.nil))))))))) (Cl.func cb11 rfl) (stepEndW (layC cs u_1 ++ [Ins.mk 16 0 0 0]) inp q m _ _ _ _ _ _ _ _ _ _ _ _ _ s _ _ _ (by omega) (by omega) hop) trivial rfl ?_
          rintro _ _ ⟨x_3, rfl, rfl⟩
          refine WL.quiet (Qt.move rfl) rfl rfl ?_
          refine WL.quiet (Qt.extract rfl rfl) rfl rfl ?_
          refine WL.quiet (Qt.extract rfl rfl) rfl rfl ?_
          refine WL.quiet (Qt.assign rfl) rfl rfl ?_
          refine WL.quiet (Qt.assign rfl) rfl rfl ?_
          refine WL.nil ?_
          refine WX.next ?_
          refine WC.seq ?_
          refine WC.seq ?_
          refine WC.region ?_
          refine WL.quiet (Qt.move rfl) rfl rfl ?_
          refine WL.quiet (Qt.neq rfl rfl) rfl rfl ?_
          refine WL.nil ?_
          refine WX.next ?_
          refine WC.no rfl ?_
          refine WC.skip ?_
          refine WX.next ?_
          refine WC.seq ?_
          refine WC.region ?_
          refine WL.quiet (Qt.move rfl) rfl rfl ?_
          refine WL.quiet (Qt.not rfl) rfl rfl ?_
          refine WL.nil ?_
          refine WX.next ?_
          refine WC.yes rfl ?_
          refine WC.seq ?_
          refine WC.calm (Calm.then (Calm.inBlock (Calm.then (Calm.then (Calm.inBlock (Calm.then (calm_FQ _ _))))))) fun hC => ?_
          refine WC.draw (Γq := [row kBool 4 S1 t1 s.stk, rd kIns A_9 c_9 (layC cs u_1 ++ [Ins.mk 16 0 0 0]), rd kBool A_10 c_10 inp, rd kBool A_11 c_11 q, rd kBool A_12 c_12 m, rd kIns A_8 c_8 (layC cs u_1 ++ [Ins.mk 16 0 0 0]), rd kIns A_6 c_6 (layC cs u_1), blk b_4 28 [.slice A_3 n_1 c_3, .slice A_4 n_2 c_4, .slice A_5 l_2.length c_5], rd kBool A_2 c_2 l_1, rd kBool A_5 c_5 l_2, blk b_3 33 [.int .i64 u_1.kind, .int .i64 u_1.n, .slice A_1 u_1.kids.length c_1], rd kTree A_1 c_1 u_1.kids, blk b_2 28 [.slice QA q.length cq, .slice MA m.length cm1, .slice EA e.length ce], blk b_1 25 [.string nm, .slice CA cs.length cc, .slice OA no oc, .string cm], rd kContact CA cc cs, rd kBool IA ci inp, rd kBool QA cq q, rd kBool MA cm1 m, rd kBool EA ce e, cellsAt ⟨0, 0, none⟩ (loadsT.map (Value.int .i64)), cellsAt ⟨1, 0, none⟩ (joinsT.map (Value.int .i64)), cellsAt ⟨2, 0, none⟩ (popsT.map (Value.int .i64)), cellsAt (⟨3, 0, none⟩ : Addr) [.int .i64 11, .int .i64 12, .int .i64 13, .int .i64 14]]) [0, 1, 2, 3, 4, 5, 6, 7, 8, 9, 10, 11, 12, 13, 14, 15, 16, 17, 18, 19] mixed ?_
          refine WA.one 0 (by kernel_rfl) ?_
          refine WO.call rfl (.u 22 rfl (.u 23 rfl (.u 24 rfl (.u 25 rfl (.nil))))) (Cl.func cb5 rfl) (alive17W) trivial rfl (by rintro _ _ ⟨rfl, rfl⟩; exact ⟨_, (.take 3 rfl (.u 3 rfl (.u 4 rfl (.u 5 rfl (.u 6 rfl (.u 7 rfl (.u 8 rfl (.take 9 rfl (.u 9 rfl (.u 10 rfl (.take 11 rfl (.u 11 rfl (.take 12 rfl (.take 12 rfl (.u 12 rfl (.u 13 rfl (.u 14 rfl (.u 15 rfl (.u 16 rfl (.u 17 rfl (.u 18 rfl (.u 19 rfl (.u 20 rfl (.nil))))))))))))))))))))))))⟩) ?_
          rintro _ _ ⟨rfl, rfl⟩
          refine WA.named (.take 3 rfl (.u 3 rfl (.u 4 rfl (.u 5 rfl (.u 6 rfl (.u 7 rfl (.u 8 rfl (.take 9 rfl (.u 9 rfl (.u 10 rfl (.take 11 rfl (.u 11 rfl (.take 12 rfl (.take 12 rfl (.u 12 rfl (.u 13 rfl (.u 14 rfl (.u 15 rfl (.u 16 rfl (.u 17 rfl (.u 18 rfl (.u 19 rfl (.u 20 rfl (.nil)))))))))))))))))))))))) fun sl_5 => ?_
          refine WA.tk 1 (by kernel_rfl) rfl hC (Qt.move rfl) trivial rfl sl_5 ?_
          refine WA.tk 2 (by kernel_rfl) rfl hC (Qt.move rfl) ⟨125, rfl, rfl⟩ rfl sl_5 ?_
          refine WA.tk 4 (by kernel_rfl) rfl hC (Qt.move rfl) ⟨125, rfl, rfl⟩ rfl sl_5 ?_
          refine WA.one 3 (by kernel_rfl) ?_
          refine WO.call rfl (.take 0 rfl (.nil)) (Cl.func cb12 rfl) (accW _ _ _ _ _ _ _ _ _ _ _ _ _ _ _ _ _ _ _ _) ⟨125, rfl, rfl⟩ rfl (by rintro _ _ ⟨rfl, rfl⟩; exact ⟨_, (.take 3 rfl (.u 3 rfl (.u 4 rfl (.u 5 rfl (.u 6 rfl (.u 7 rfl (.u 8 rfl (.take 9 rfl (.u 9 rfl (.u 10 rfl (.take 11 rfl (.u 11 rfl (.take 12 rfl (.take 12 rfl (.u 12 rfl (.u 13 rfl (.u 14 rfl (.u 15 rfl (.u 16 rfl (.u 17 rfl (.u 18 rfl (.u 19 rfl (.u 20 rfl (.nil))))))))))))))))))))))))⟩) ?_
          rintro _ _ ⟨rfl, rfl⟩
          refine WA.tk 5 (by kernel_rfl) rfl hC (Qt.to (Qt.beql Tryz.underlying4 rfl rfl) (show Value.bool (s.acc == evalT (evOn l_1) u_1) = Value.bool true from congrArg Value.bool (by rw [hacc]; simp))) ⟨125, rfl, rfl⟩ rfl sl_5 ?_
          refine WA.tk 6 (by kernel_rfl) rfl hC (Qt.pickT rfl rfl) trivial rfl sl_5 ?_
          refine WA.tk 7 (by kernel_rfl) rfl hC (Qt.move rfl) trivial rfl sl_5 ?_
          refine WA.tk 8 (by kernel_rfl) rfl hC (Qt.move rfl) ⟨131, rfl, rfl⟩ rfl sl_5 ?_
          refine WA.one 9 (by kernel_rfl) ?_
          refine WO.call rfl (.take 0 rfl (.take 1 rfl (.nil))) (Cl.func cb13 rfl) (depthW _ _ _ _ _ _ _ _ _ _ _ _ _ _ _ _ _ _ _ _ _ _ _ _ _) ⟨131, rfl, rfl⟩ rfl (by rintro _ _ ⟨rfl, rfl⟩; exact ⟨_, (.take 3 rfl (.u 3 rfl (.u 4 rfl (.u 5 rfl (.u 6 rfl (.u 7 rfl (.u 8 rfl (.take 9 rfl (.u 9 rfl (.u 10 rfl (.take 11 rfl (.u 11 rfl (.take 12 rfl (.take 12 rfl (.u 12 rfl (.u 13 rfl (.u 14 rfl (.u 15 rfl (.u 16 rfl (.u 17 rfl (.u 18 rfl (.u 19 rfl (.u 20 rfl (.nil))))))))))))))))))))))))⟩) ?_
          rintro _ _ ⟨rfl, rfl⟩
          refine WA.named (.take 3 rfl (.u 3 rfl (.u 4 rfl (.u 5 rfl (.u 6 rfl (.u 7 rfl (.u 8 rfl (.take 9 rfl (.u 9 rfl (.u 10 rfl (.take 11 rfl (.u 11 rfl (.take 12 rfl (.take 12 rfl (.u 12 rfl (.u 13 rfl (.u 14 rfl (.u 15 rfl (.u 16 rfl (.u 17 rfl (.u 18 rfl (.u 19 rfl (.u 20 rfl (.nil)))))))))))))))))))))))) fun sl_6 => ?_
          refine WA.tk 10 (by kernel_rfl) rfl hC (Qt.to (Qt.eql rfl rfl) (congrArg Value.bool (decide_eq_true (by rw [hstk]; rfl)))) ⟨131, rfl, rfl⟩ rfl sl_6 ?_
          refine WA.tk 11 (by kernel_rfl) rfl hC (Qt.pickT rfl rfl) trivial rfl sl_6 ?_
          refine WA.tk 12 (by kernel_rfl) rfl hC (Qt.move rfl) trivial rfl sl_6 ?_
          refine WA.tk 13 (by kernel_rfl) rfl hC (Qt.move rfl) ⟨136, rfl, rfl⟩ rfl sl_6 ?_
          refine WA.tk 16 (by kernel_rfl) rfl hC (Qt.fieldAddrB tf28_2 rfl) ⟨136, rfl, rfl⟩ rfl sl_6 ?_
          refine WA.tk 17 (by kernel_rfl) rfl hC (Qt.loadB 7 rfl ta26 rfl rfl) ⟨136, rfl, rfl⟩ rfl sl_6 ?_
          refine WA.one 14 (by kernel_rfl) ?_
          refine WO.call rfl (.take 0 rfl (.u 5 rfl (.u 6 rfl (.take 1 rfl (.nil))))) (Cl.func cb15 rfl) (mStateW q m s.E _ _ _ _ _ _ _ _ _ _ _ _ _ _ _ _ _ (by omega) (by omega) (by omega)) ⟨136, rfl, rfl⟩ rfl (by rintro _ _ ⟨A_30, c_30, A_31, c_31, A_32, c_32, rfl, rfl⟩; exact ⟨_, (.take 6 rfl (.u 6 rfl (.u 7 rfl (.u 8 rfl (.u 9 rfl (.u 10 rfl (.u 11 rfl (.take 12 rfl (.u 12 rfl (.u 13 rfl (.take 14 rfl (.u 14 rfl (.take 15 rfl (.take 15 rfl (.u 15 rfl (.u 16 rfl (.u 17 rfl (.u 18 rfl (.u 19 rfl (.u 20 rfl (.u 21 rfl (.u 22 rfl (.u 23 rfl (.nil))))))))))))))))))))))))⟩) ?_
          rintro _ _ ⟨A_30, c_30, A_31, c_31, A_32, c_32, rfl, rfl⟩
          refine WA.turn (.take 4 rfl (.nil)) (freeze_row) ?_
          rintro _ rfl
          refine WA.named (.take 6 rfl (.u 6 rfl (.u 7 rfl (.u 8 rfl (.u 9 rfl (.u 10 rfl (.u 11 rfl (.take 12 rfl (.u 12 rfl (.u 13 rfl (.take 14 rfl (.u 14 rfl (.take 15 rfl (.take 15 rfl (.u 15 rfl (.u 16 rfl (.u 17 rfl (.u 18 rfl (.u 19 rfl (.u 20 rfl (.u 21 rfl (.u 22 rfl (.u 23 rfl (.nil)))))))))))))))))))))))) fun sl_7 => ?_
          refine WA.tk 15 (by kernel_rfl) rfl hC (Qt.field tf1_28_2 rfl rfl) ⟨136, rfl, rfl⟩ rfl sl_7 ?_
          refine WA.one 18 (by kernel_rfl) ?_
          refine WO.call rfl (.u 0 rfl (.u 15 rfl (.nil))) (Cl.func cb14 rfl) (equalBW s.E l_2 _ _ _ _) ⟨136, rfl, rfl⟩ rfl (by rintro _ _ ⟨rfl, rfl⟩; exact ⟨_, (.take 6 rfl (.u 6 rfl (.u 7 rfl (.u 8 rfl (.u 9 rfl (.u 10 rfl (.u 11 rfl (.take 12 rfl (.u 12 rfl (.u 13 rfl (.take 14 rfl (.u 14 rfl (.take 15 rfl (.take 15 rfl (.u 15 rfl (.u 16 rfl (.u 17 rfl (.u 18 rfl (.u 19 rfl (.u 20 rfl (.u 21 rfl (.u 22 rfl (.u 23 rfl (.nil))))))))))))))))))))))))⟩) ?_
          rintro _ _ ⟨rfl, rfl⟩
          refine WA.tk 19 (by kernel_rfl) rfl hC (Qt.pickT rfl rfl) trivial rfl sl_7 ?_
          refine WA.phase (K' := [0, 1, 2, 3, 4, 5, 6, 7, 8, 9, 10, 11, 12, 13, 14, 15, 16, 17, 18, 19, 20]) (Γq' := [rd kBool A_32 c_32 s.E, blk b_7 96 [.slice A_9 ((layC cs u_1 ++ [Ins.mk 16 0 0 0]).length) c_9, .slice A_10 inp.length c_10, .slice A_11 q.length c_11, .slice A_12 m.length c_12, .slice E1 s.E.length e1, .int .i64 x_3, .bool s.acc, .pointer (some ⟨b_8, 0, none⟩), .bool true, .int .i64 0], row kBool 4 E1 e1 s.E, row kBool 4 A_30 c_30 q, row kBool 4 A_31 c_31 m, blk b_8 129 [.slice S1 s.stk.length t1, .int .i64 64, .int .i64 mx], row kBool 4 S1 t1 s.stk, rd kIns A_9 c_9 (layC cs u_1 ++ [Ins.mk 16 0 0 0]), rd kBool A_10 c_10 inp, rd kBool A_11 c_11 q, rd kBool A_12 c_12 m, rd kIns A_8 c_8 (layC cs u_1 ++ [Ins.mk 16 0 0 0]), rd kIns A_6 c_6 (layC cs u_1), blk b_4 28 [.slice A_3 n_1 c_3, .slice A_4 n_2 c_4, .slice A_5 l_2.length c_5], rd kBool A_2 c_2 l_1, rd kBool A_5 c_5 l_2, blk b_3 33 [.int .i64 u_1.kind, .int .i64 u_1.n, .slice A_1 u_1.kids.length c_1], rd kTree A_1 c_1 u_1.kids, blk b_2 28 [.slice QA q.length cq, .slice MA m.length cm1, .slice EA e.length ce], blk b_1 25 [.string nm, .slice CA cs.length cc, .slice OA no oc, .string cm], rd kContact CA cc cs, rd kBool IA ci inp, rd kBool QA cq q, rd kBool MA cm1 m, rd kBool EA ce e, cellsAt ⟨0, 0, none⟩ (loadsT.map (Value.int .i64)), cellsAt ⟨1, 0, none⟩ (joinsT.map (Value.int .i64)), cellsAt ⟨2, 0, none⟩ (popsT.map (Value.int .i64)), cellsAt (⟨3, 0, none⟩ : Addr) [.int .i64 11, .int .i64 12, .int .i64 13, .int .i64 14]]) (by kernel_rfl) ?_
          refine WA.named (.u 0 rfl (.take 1 rfl (.take 1 rfl (.take 1 rfl (.take 1 rfl (.take 1 rfl (.take 1 rfl (.u 1 rfl (.u 2 rfl (.u 3 rfl (.u 4 rfl (.u 5 rfl (.u 6 rfl (.take 7 rfl (.u 7 rfl (.u 8 rfl (.take 9 rfl (.u 9 rfl (.take 10 rfl (.take 10 rfl (.u 10 rfl (.u 11 rfl (.u 12 rfl (.u 13 rfl (.u 14 rfl (.u 15 rfl (.u 16 rfl (.u 17 rfl (.u 18 rfl (.nil)))))))))))))))))))))))))))))) fun sl_8 => ?_
          refine WA.tk 20 (by kernel_rfl) rfl hC (Qt.assign rfl) trivial rfl sl_8 ?_
          refine WA.done (by kernel_rfl) ?_
          refine WX.next ?_
          refine WC.ret ?_
          refine WX.block_ret ?_
          refine WX.pass_ret ?_
          refine WX.pass_ret ?_
          refine WX.block_ret ?_
          refine WX.pass_ret ?_
          refine WX.ret1 (.nil) rfl rfl ?_
          exact ⟨by rw [hEE, same_self], rfl⟩
        ·
         exact absurd (by omega) hc_3

end Go.Proofs.YtolggjmgfijjfaaGreatDoor.Sep
