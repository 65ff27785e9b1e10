/- CodegenIsCorrect: the code of a rung's reduced tree, run on the machine, agrees with the reference: for every rung, input and state the call returns true and leaves its arguments as they were; the listed package-level variables begin as the program's text lays them. -/
import Derived.Test.YtolggjmgfijjfaaGreatDoorCgF
import Derived.Test.YtolggjmgfijjfaaGreatDoorCards
import Derived.Test.YtolggjmgfijjfaaGreatDoorTie
set_option autoImplicit false
set_option linter.unusedVariables false
set_option linter.unusedSimpArgs false
set_option linter.unusedSectionVars false
set_option maxRecDepth 100000
namespace Go.Proofs.YtolggjmgfijjfaaGreatDoor
namespace Sep
open Go Go.Proofs Go.ChangeShapes Go.WideShapes Go.RowKit Go.ChangeAt

theorem own : ownKnob Tryz.prog.godebug = none := by kernel_rfl
theorem rungT : RungT Tryz.prog 25 22 23 56 104 47 3 9 :=
  ⟨Tryz.underlying25, Tryz.underlying22, Tryz.underlying23, Tryz.underlying56, Tryz.underlying104, Tryz.underlying47, Tryz.underlying3, Tryz.underlying9, by kernel_rfl, by kernel_rfl, by kernel_rfl, by kernel_rfl, by kernel_rfl, by kernel_rfl, by kernel_rfl, by kernel_rfl⟩
theorem stateT : StateT Tryz.prog 28 26 4 (fld "Q" 26 0 0) (fld "M" 26 1 24) (fld "E" 26 2 48) :=
  ⟨Tryz.underlying28, rfl, rfl, rfl, rfl, rfl, rfl, Tryz.underlying26, Tryz.underlying4, by kernel_rfl, by kernel_rfl, by kernel_rfl, of_decide_eq_true (by kernel_rfl)⟩
section
variable {W : World} (h : laidMetH Tryz.prog Rows.codegenIsCorrectRow.laid W)
include h
theorem loadsF : (cellsAt ⟨0, 0, none⟩ (loadsT.map (Value.int .i64))).ok (fun k => k < W.heap.size) W :=
  laid_tab (by kernel_rfl) h loadsT (by simp [Rows.codegenIsCorrectRow]) (dat := Rows.laid_busbar_codegen_loads) rfl (name := "busbar/codegen.loads") (g := 0) (t := 122) (by kernel_rfl) (by kernel_rfl) Tryz.underlying122 Tryz.underlying3 (by kernel_rfl) (by kernel_rfl)
theorem joinsF : (cellsAt ⟨1, 0, none⟩ (joinsT.map (Value.int .i64))).ok (fun k => k < W.heap.size) W :=
  laid_tab32 (by kernel_rfl) h 0 0 2 3 4 5 (by simp [Rows.codegenIsCorrectRow]) (dat := Rows.laid_busbar_codegen_joins) rfl (name := "busbar/codegen.joins") (g := 1) (t := 124) (by kernel_rfl) (by kernel_rfl) Tryz.underlying124 Tryz.underlying123 Tryz.underlying3 (by kernel_rfl) (by kernel_rfl) (by kernel_rfl)
theorem popsF : (cellsAt ⟨2, 0, none⟩ (popsT.map (Value.int .i64))).ok (fun k => k < W.heap.size) W :=
  laid_tab (by kernel_rfl) h popsT (by simp [Rows.codegenIsCorrectRow]) (dat := Rows.laid_busbar_codegen_pops) rfl (name := "busbar/codegen.pops") (g := 2) (t := 125) (by kernel_rfl) (by kernel_rfl) Tryz.underlying125 Tryz.underlying3 (by kernel_rfl) (by kernel_rfl)
theorem writesF : (cellsAt ⟨3, 0, none⟩ [.int .i64 11, .int .i64 12, .int .i64 13, .int .i64 14]).ok (fun k => k < W.heap.size) W :=
  laid_tab (by kernel_rfl) h [11, 12, 13, 14] (by simp [Rows.codegenIsCorrectRow]) (dat := Rows.laid_busbar_codegen_writes) rfl (name := "busbar/codegen.writes") (g := 3) (t := 122) (by kernel_rfl) (by kernel_rfl) Tryz.underlying122 Tryz.underlying3 (by kernel_rfl) (by kernel_rfl)
end
theorem contract (H : Type) (enc : TypeId × Value → H) (W : World) (base : Nat) (args : Array Value) (ds gs : List (DataW H)) (before : List MemPlace)
    (hval : ∀ (j : Nat) t v, Tryz.f3.params[j]? = some t → args[j]? = some v → Value.okWide Tryz.prog W .any base t v)
    (hW : DataW.Whole enc Tryz.prog Tryz.f3.params.toList Rows.codegenIsCorrectSpec.vars false W args.toList ds gs before)
    (hwt : (DataW.weightsEach Tryz.prog (Tryz.f3.params.toList ++ (OpenSpec.ofChange Rows.codegenIsCorrectSpec).bare.plain.varTypes Tryz.prog) (ds ++ gs)).all (· ≤ reachBytes) = true)
    (hL : laidMetH Tryz.prog Rows.codegenIsCorrectRow.laid W) :
    Calls Tryz.prog 3 args W fun e W' => ∃ v, e = .returned v ∧ Rows.codegenIsCorrectSpec.post enc Tryz.prog Tryz.f3 false true false false W args v W' := by
  have hW' := hW
  obtain ⟨p, q, hA0, hV, rfl, hfz, hnd⟩ := hW
  have hA : DataW.TrodAll enc Tryz.prog W 0 (fun _ => true) true Tryz.f3.params.toList args.toList ds p := hA0
  rw [Tryz.params3] at hA hval hwt
  obtain ⟨v0, v1, v2, d0, d1, d2, p0, p1, p2, rfl, rfl, rfl, h0, h1, h2⟩ := trodAll_three hA
  obtain ⟨rfl, rfl⟩ := trodVars_none hV
  have hw2 : ∀ k, k ∈ d2.weights Tryz.prog 28 → k ≤ reachBytes := fun k hk => by
    have := List.all_eq_true.1 hwt k (List.mem_append_right _ (List.mem_append_right _ (List.mem_append_left _ hk)))
    simpa using this
  obtain ⟨cs, ls, nm, cm, CA, OA, cc, oc, rfl, hcs, _⟩ := arg_rung rungT (hval 0 25 v0 rfl rfl) h0
  obtain ⟨inp, IA, ci, rfl, hin⟩ := arg_bools Tryz.underlying26 Tryz.underlying4 (by kernel_rfl) (hval 1 26 v1 rfl rfl) h1
  obtain ⟨q, m, e, QA, MA, EA, cq, cm1, ce, rfl, hq, hm, he, lq, lm, le⟩ := arg_state stateT (hval 2 28 v2 rfl rfl) h2 hw2
  have hb : q.length ≤ 140737488355328 ∧ m.length ≤ 140737488355328 ∧ e.length ≤ 140737488355328 := by
    unfold reachBytes at lq lm le
    omega
  have hl := loadsF hL
  have hj := joinsF hL
  have hp := popsF hL
  have hr := writesF hL
  have hfs : ∀ F, F ∈ [rd kContact CA cc cs, rd kBool IA ci inp, rd kBool QA cq q, rd kBool MA cm1 m, rd kBool EA ce e, cellsAt ⟨0, 0, none⟩ (loadsT.map (Value.int .i64)), cellsAt ⟨1, 0, none⟩ (joinsT.map (Value.int .i64)), cellsAt ⟨2, 0, none⟩ (popsT.map (Value.int .i64)), cellsAt ⟨3, 0, none⟩ [.int .i64 11, .int .i64 12, .int .i64 13, .int .i64 14]] → F.ok (fun k => k < W.heap.size) W ∧ ∀ k, ¬ F.own k := by
    intro F hF
    simp only [List.mem_cons, List.not_mem_nil, or_false] at hF
    rcases hF with rfl | rfl | rfl | rfl | rfl | rfl | rfl | rfl | rfl
    · exact ⟨hcs, fun _ h => h⟩
    · exact ⟨hin, fun _ h => h⟩
    · exact ⟨hq, fun _ h => h⟩
    · exact ⟨hm, fun _ h => h⟩
    · exact ⟨he, fun _ h => h⟩
    · exact ⟨hl, fun _ h => h⟩
    · exact ⟨hj, fun _ h => h⟩
    · exact ⟨hp, fun _ h => h⟩
    · exact ⟨hr, fun _ h => h⟩
  refine ((law17W cs inp q m e nm cm CA OA IA QA MA EA ls.length cc oc ci cq cm1 ce hb).calls W (fun F hF => (hfs F hF).1) (fun F hF => (hfs F hF).2)).mono fun e' W' ⟨v, Δ, he', ⟨hv, _⟩, hbl⟩ => ⟨v, he', ?_⟩
  subst hv
  exact law_post rfl rfl (by kernel_rfl) Tryz.underlying4 (by kernel_rfl) (by
    rw [Tryz.params3]
    intro t ht
    simp only [List.mem_cons, List.not_mem_nil, or_false] at ht
    rcases ht with rfl | rfl | rfl
    · exact ⟨by kernel_rfl, of_decide_eq_true (by kernel_rfl)⟩
    · exact ⟨by kernel_rfl, of_decide_eq_true (by kernel_rfl)⟩
    · exact ⟨by kernel_rfl, of_decide_eq_true (by kernel_rfl)⟩) hW' hbl
/-- A world for the witness: the settled one, the listed variables as the text lays them. -/
def setRow (g : Nat) (cs : Array Value) (h : Array Obj) : Array Obj := h.modify g fun
  | .cells _ t frozen => .cells cs t frozen
  | o => o
def ints (l : List Int) : Array Value := (l.map (Value.int .i64)).toArray
noncomputable def laidWorld (os : Os) : World :=
  { World.holding Tryz.prog os ⟨#[], #[], []⟩ with heap := setRow 0 (ints [0, 1, 6, 7]) (setRow 1 (ints [0, 0, 2, 3, 4, 5]) (setRow 2 (ints [0, 9, 10]) (setRow 3 (ints [11, 12, 13, 14]) (World.holding Tryz.prog os ⟨#[], #[], []⟩).heap))) }
abbrev arg0 : Array Value := #[.agg #[.string ⟨#[]⟩, .slice none 0 0, .slice none 0 0, .string ⟨#[]⟩], .slice none 0 0, .agg #[.slice none 0 0, .slice none 0 0, .slice none 0 0]]
theorem laid_met (os : Os) : laidMet Tryz.prog Rows.codegenIsCorrectRow.laid ((laidWorld os).forCall (fun _ _ => 0) ⟨#[], arg0, []⟩).memory :=
  laidMet_of_run' 8 (by kernel_rfl) (by kernel_rfl)
theorem reads (os : Os) {H : Type} (enc : TypeId × Value → H) : ∃ places, DataW.whole enc Tryz.prog ((laidWorld os).forCall (fun _ _ => 0) ⟨#[], arg0, []⟩).memory Tryz.f3.params.toList Rows.codegenIsCorrectSpec.vars false arg0.toList 8 = some ([.agg [.lit (.string []), .nil, .nil, .lit (.string [])], .nil, .agg [.nil, .nil, .nil]], [], places) :=
  ⟨[], by kernel_rfl⟩
theorem lifted (os : Os) (started : os.Started) (H : Type) (enc : TypeId × Value → H) (F : Stop.Interp) :
    ReturnsInHanded {} Tryz.checked os 3 .any ((OpenSpec.ofChange Rows.codegenIsCorrectSpec).preRow enc Tryz.prog Tryz.f3 Rows.codegenIsCorrectRow.domain false Rows.codegenIsCorrectRow.laid) (((OpenSpec.ofChange Rows.codegenIsCorrectSpec).at F).post enc Tryz.prog Tryz.f3 false true false false) := by
  obtain ⟨places, hx⟩ := reads os enc
  refine returnsInHanded_of_row (C := Tryz.checked) (s := OpenSpec.ofChange Rows.codegenIsCorrectSpec) own started (by kernel_rfl) Tryz.func3
    (witness_row_at (enc := enc) (C := Tryz.checked) false (laidWorld os) arg0 rfl (by kernel_rfl) (by kernel_rfl) (by kernel_rfl)
      (OpenSpec.preRow_of_cond 8 hx (by kernel_rfl) (fun k hk => by cases hk) (by kernel_rfl) (laid_met os))) ?_
  intro W base args ds gs before hval hW _ _ hwt hL _ _
  exact contract H enc W base args ds gs before hval hW hwt hL
theorem said : Rows.CodegenIsCorrectSaid :=
  OpenClaim.holds_of_cond 3 Tryz.f3 rfl rfl rfl rfl rfl rfl rfl ⟨rfl, rfl, rfl, rfl, rfl⟩ rfl rfl rfl rfl rfl (by kernel_rfl) Tryz.func3 (by kernel_rfl)
    (of_decide_eq_true (by kernel_rfl)) (by unfold Func.isWrapper; first | (rw [if_pos (by decide +kernel)]; kernel_rfl) | (rw [if_neg (by decide +kernel)]; exact ⟨rfl, rfl⟩))
    (fun os started H enc _ F => by rw [OpenClaim.pre_eq_preRow]; exact lifted os started H enc F)
theorem plain (f : FuncId) (fn : Func) (hf : Tryz.pinned.checked.prog.funcNamed "busbar/busbarlaw17.CodegenIsCorrect" = some f) (hfn : Tryz.pinned.checked.prog.funcs[f]? = some fn) :
    false = Tryz.pinned.checked.prog.looks [] ∧ ∀ (j : Nat) t, fn.params[j]? = some t → Tryz.pinned.checked.prog.wantsStandIn t = false := by
  obtain rfl : f = 3 := Option.some.inj ((show Tryz.prog.funcNamed "busbar/busbarlaw17.CodegenIsCorrect" = some 3 by kernel_rfl).symm.trans hf) |>.symm
  obtain rfl : fn = Tryz.f3 := (Option.some.inj (Tryz.func3.symm.trans hfn)).symm
  refine ⟨by kernel_rfl, fun j t ht => ?_⟩
  rw [Tryz.params3] at ht
  have hm : t = 25 ∨ t = 26 ∨ t = 28 := by simpa using Array.mem_of_getElem? ht
  rcases hm with rfl | rfl | rfl
  · exact (show Tryz.prog.wantsStandIn 25 = false by kernel_rfl)
  · exact (show Tryz.prog.wantsStandIn 26 = false by kernel_rfl)
  · exact (show Tryz.prog.wantsStandIn 28 = false by kernel_rfl)
end Sep
/-- THE CARD. -/
theorem codegen_card : Rows.CodegenIsCorrectCardSaid :=
  Claim7.holds_tied_plain_at .later [] _ _ _ _ Sep.said (fun _ h => by cases h) (by kernel_rfl) (fun _ h => by cases h) codegenIsCorrect_row_tie rfl ⟨rfl, rfl⟩ (by kernel_rfl) rfl Sep.plain (by kernel_rfl)
#print axioms codegen_card
end Go.Proofs.YtolggjmgfijjfaaGreatDoor
