/- ReduceIsStable: expanding the tree of a rung and reducing it again yields the same tree: for every rung the call returns true and leaves its argument as it was; the listed package-level variables begin as the program's text lays them. -/
import Derived.Test.YtkhmbhdlfpalkaaDoorStD
import Derived.Test.YtkhmbhdlfpalkaaDoorCards
import Derived.Test.YtkhmbhdlfpalkaaDoorTie
set_option autoImplicit false
set_option linter.unusedVariables false
set_option linter.unusedSimpArgs false
set_option linter.unusedSectionVars false
set_option maxRecDepth 100000
namespace Go.Proofs.YtkhmbhdlfpalkaaDoor
namespace Sep
open Go Go.Proofs Go.ChangeShapes Go.WideShapes Go.RowKit Go.ChangeAt

theorem own : ownKnob Tryd.prog.godebug = none := by kernel_rfl
theorem rungT : RungT Tryd.prog 25 22 23 42 160 40 3 9 :=
  ⟨Tryd.underlying25, Tryd.underlying22, Tryd.underlying23, Tryd.underlying42, Tryd.underlying160, Tryd.underlying40, Tryd.underlying3, Tryd.underlying9, by kernel_rfl, by kernel_rfl, by kernel_rfl, by kernel_rfl, by kernel_rfl, by kernel_rfl, by kernel_rfl, by kernel_rfl⟩
theorem signsNamed : Tryd.prog.globalNamed "busbar/tree.signs" = some 0 := by kernel_rfl
theorem signsType : (Tryd.prog.globals[0]?).map (·.type) = some 62 := by kernel_rfl
/-- What the row lists of the brackets. -/
theorem signs {W : World} (h : laidMetH Tryd.prog Rows.reduceIsStableRow.laid W) : (cellsAt ⟨0, 0, none⟩ [.int .u8 0, .int .u8 0, .int .u8 91, .int .u8 93, .int .u8 123, .int .u8 125]).ok (fun k => k < W.heap.size) W := by
  obtain ⟨g, t, cs, fuel, p, h1, h2, h3, h4⟩ := laidH_at (by kernel_rfl) h "busbar/tree.signs" Rows.laid_busbar_tree_signs (by simp [Rows.reduceIsStableRow])
  obtain rfl := Option.some.inj (signsNamed.symm.trans h1)
  obtain rfl := Option.some.inj (signsType.symm.trans h2)
  obtain ⟨hl, hr⟩ := rows_of_tab (rows := [[0, 0], [91, 93], [123, 125]]) Tryd.underlying62 Tryd.underlying61 Tryd.underlying5 (by kernel_rfl) (by kernel_rfl) (by kernel_rfl) rfl h4
  have e : cs.toList = [.int .u8 0, .int .u8 0, .int .u8 91, .int .u8 93, .int .u8 123, .int .u8 125] := by
    have r0 := hr 0 (by decide)
    have r1 := hr 1 (by decide)
    have r2 := hr 2 (by decide)
    generalize cs.toList = l at *
    match l, hl with
    | [a, b, c, d, e, f], _ => simp_all
  refine ⟨var_lt signsNamed h3, fun i u hu => ?_⟩
  have hc := World.var?_cell signsNamed h3 i
  rw [add_plain, Nat.zero_add, hc, ← Array.getElem?_toList, e]
  exact hu
theorem contract (H : Type) (enc : TypeId × Value → H) (W : World) (base : Nat) (args : Array Value) (ds gs : List (DataW H)) (before : List MemPlace)
    (hval : ∀ (j : Nat) t v, Tryd.f3.params[j]? = some t → args[j]? = some v → Value.okWide Tryd.prog W .any base t v)
    (hW : DataW.Whole enc Tryd.prog Tryd.f3.params.toList Rows.reduceIsStableSpec.vars false W args.toList ds gs before) (hL : laidMetH Tryd.prog Rows.reduceIsStableRow.laid W) :
    Calls Tryd.prog 3 args W fun e W' => ∃ v, e = .returned v ∧ Rows.reduceIsStableSpec.post enc Tryd.prog Tryd.f3 false true false false W args v W' := by
  have hW' := hW
  obtain ⟨p, q, hA0, hV, rfl, hfz, hnd⟩ := hW
  have hA : DataW.TrodAll enc Tryd.prog W 0 (fun _ => true) true Tryd.f3.params.toList args.toList ds p := hA0
  rw [Tryd.params3] at hA hval
  obtain ⟨v0, vs0, d0, ds0, p0, q0, hargs, rfl, rfl, h0, r0⟩ := trodAll_cons hA
  obtain ⟨rfl, rfl, rfl⟩ := trodAll_nil r0
  obtain rfl : args = #[v0] := by cases args; simp_all
  obtain ⟨rfl, rfl⟩ := trodVars_none hV
  obtain ⟨cs, ls, lb, jp, A, B, c, d, rfl, hrd, _⟩ := arg_rung rungT (hval 0 25 v0 rfl rfl) h0
  have hno : ∀ F, F ∈ [rd kContact A c cs, cellsAt ⟨0, 0, none⟩ [.int .u8 0, .int .u8 0, .int .u8 91, .int .u8 93, .int .u8 123, .int .u8 125]] → ∀ k, ¬ F.own k := by
    intro F hF
    rcases List.mem_cons.1 hF with rfl | hF
    · exact fun _ h => h
    · obtain rfl := List.mem_singleton.1 hF
      exact fun _ h => h
  refine ((stableW cs lb jp A B c ls.length d).calls W (fun F hF => ?_) hno).mono fun e W' ⟨v, Δ, he, ⟨hv, _⟩, hb⟩ => ⟨v, he, ?_⟩
  · rcases List.mem_cons.1 hF with rfl | hF
    · exact hrd
    · obtain rfl := List.mem_singleton.1 hF
      exact signs hL
  · subst hv
    exact law_post rfl rfl (by kernel_rfl) Tryd.underlying4 (by kernel_rfl) (by rw [Tryd.params3]; intro t ht; simp at ht; subst ht; exact ⟨by kernel_rfl, of_decide_eq_true (by kernel_rfl)⟩) hW' hb
/-- A world for the witness: the settled one, the listed variables as the text lays them. -/
def laidCells : DataW Unit → Array Value
  | .agg l => (l.map fun | .lit (.int k n) => Value.int k n | _ => undef).toArray
  | _ => #[]
def setRow (g : Nat) (cs : Array Value) (h : Array Obj) : Array Obj := h.modify g fun
  | .cells _ t frozen => .cells cs t frozen
  | o => o
noncomputable def laidWorld (os : Os) : World :=
  { World.holding Tryd.prog os ⟨#[], #[], []⟩ with heap := setRow 0 #[.int .u8 0, .int .u8 0, .int .u8 91, .int .u8 93, .int .u8 123, .int .u8 125] (setRow 1 (laidCells Rows.laid_internal_strconv_uint64pow10) (setRow 3 (laidCells Rows.laid_math_bits_deBruijn32tab) (setRow 4 (laidCells Rows.laid_math_bits_deBruijn64tab) (World.holding Tryd.prog os ⟨#[], #[], []⟩).heap))) }
abbrev arg0 : Array Value := #[.agg #[.string ⟨#[]⟩, .slice none 0 0, .slice none 0 0, .string ⟨#[]⟩]]
theorem laid_met (os : Os) : laidMet Tryd.prog Rows.reduceIsStableRow.laid ((laidWorld os).forCall (fun _ _ => 0) ⟨#[], arg0, []⟩).memory :=
  laidMet_of_run' 8 (by kernel_rfl) (by kernel_rfl)
theorem reads (os : Os) {H : Type} (enc : TypeId × Value → H) : ∃ places, DataW.whole enc Tryd.prog ((laidWorld os).forCall (fun _ _ => 0) ⟨#[], arg0, []⟩).memory Tryd.f3.params.toList Rows.reduceIsStableSpec.vars false arg0.toList 8 = some ([.agg [.lit (.string []), .nil, .nil, .lit (.string [])]], [], places) :=
  ⟨[], by kernel_rfl⟩
theorem lifted (os : Os) (started : os.Started) (H : Type) (enc : TypeId × Value → H) (F : Stop.Interp) :
    ReturnsInHanded {} Tryd.checked os 3 .any ((OpenSpec.ofChange Rows.reduceIsStableSpec).preRow enc Tryd.prog Tryd.f3 Rows.reduceIsStableRow.domain false Rows.reduceIsStableRow.laid) (((OpenSpec.ofChange Rows.reduceIsStableSpec).at F).post enc Tryd.prog Tryd.f3 false true false false) := by
  obtain ⟨places, hx⟩ := reads os enc
  refine returnsInHanded_of_row (C := Tryd.checked) (s := OpenSpec.ofChange Rows.reduceIsStableSpec) own started (by kernel_rfl) Tryd.func3
    (witness_row_at (enc := enc) (C := Tryd.checked) false (laidWorld os) arg0 rfl (by kernel_rfl) (by kernel_rfl) (by kernel_rfl)
      (OpenSpec.preRow_of_cond 8 hx (by kernel_rfl) (fun k hk => by cases hk) (by kernel_rfl) (laid_met os))) ?_
  intro W base args ds gs before hval hW _ _ _ hL _ _
  exact contract H enc W base args ds gs before hval hW hL
theorem said : Rows.ReduceIsStableSaid :=
  OpenClaim.holds_of_cond 3 Tryd.f3 rfl rfl rfl rfl rfl rfl rfl ⟨rfl, rfl, rfl, rfl, rfl⟩ rfl rfl rfl rfl rfl (by kernel_rfl) Tryd.func3 (by kernel_rfl)
    (of_decide_eq_true (by kernel_rfl)) (by unfold Func.isWrapper; first | (rw [if_pos (by decide +kernel)]; kernel_rfl) | (rw [if_neg (by decide +kernel)]; exact ⟨rfl, rfl⟩))
    (fun os started H enc _ F => by rw [OpenClaim.pre_eq_preRow]; exact lifted os started H enc F)
theorem plain (f : FuncId) (fn : Func) (hf : Tryd.pinned.checked.prog.funcNamed "busbar/busbarlaw15.ReduceIsStable" = some f) (hfn : Tryd.pinned.checked.prog.funcs[f]? = some fn) :
    false = Tryd.pinned.checked.prog.looks [] ∧ ∀ (j : Nat) t, fn.params[j]? = some t → Tryd.pinned.checked.prog.wantsStandIn t = false := by
  obtain rfl : f = 3 := Option.some.inj ((show Tryd.prog.funcNamed "busbar/busbarlaw15.ReduceIsStable" = some 3 by kernel_rfl).symm.trans hf) |>.symm
  obtain rfl : fn = Tryd.f3 := (Option.some.inj (Tryd.func3.symm.trans hfn)).symm
  refine ⟨by kernel_rfl, fun j t ht => ?_⟩
  rw [Tryd.params3] at ht
  have hm : t = 25 := by simpa using Array.mem_of_getElem? ht
  subst hm
  exact (show Tryd.prog.wantsStandIn 25 = false by kernel_rfl)
end Sep
/-- THE CARD. -/
theorem stable_card : Rows.ReduceIsStableCardSaid :=
  Claim7.holds_tied_plain_at .later [] _ _ _ _ Sep.said (fun _ h => by cases h) (by kernel_rfl) (fun _ h => by cases h) reduceIsStable_row_tie rfl ⟨rfl, rfl⟩ (by kernel_rfl) rfl Sep.plain (by kernel_rfl)
#print axioms stable_card
end Go.Proofs.YtkhmbhdlfpalkaaDoor
