/- ReduceInvertsExpand: reduce of an expanded tree returns the tree with sorted Parallel nodes: for every tree and every number: the call returns true and leaves its arguments as they were; the listed package-level variables begin as the program's text lays them. -/
import Derived.Test.YtkhmbhdlfpalkaaGreatDoorReD
import Derived.Test.YtkhmbhdlfpalkaaGreatDoorCards
import Derived.Test.YtkhmbhdlfpalkaaGreatDoorTie
set_option autoImplicit false
set_option linter.unusedVariables false
set_option linter.unusedSimpArgs false
set_option linter.unusedSectionVars false
set_option maxRecDepth 100000
namespace Go.Proofs.YtkhmbhdlfpalkaaGreatDoor
namespace Sep
open Go Go.Proofs Go.ChangeShapes Go.WideShapes Go.RowKit Go.ChangeAt

theorem own : ownKnob Tryz.prog.godebug = none := by kernel_rfl
theorem treeT : TreeT Tryz.prog 24 22 3 { name := "Kind", type := 3, offset := 0, embedded := false, tag := "", pkgPath := "", byteOffset := 0 } { name := "N", type := 3, offset := 1, embedded := false, tag := "", pkgPath := "", byteOffset := 8 } { name := "Kids", type := 22, offset := 2, embedded := false, tag := "", pkgPath := "", byteOffset := 16 } :=
  ⟨Tryz.underlying24, rfl, rfl, rfl, rfl, rfl, rfl, Tryz.underlying3, Tryz.underlying22, by kernel_rfl, by kernel_rfl, by kernel_rfl⟩
theorem signsNamed : Tryz.prog.globalNamed "busbar/tree.signs" = some 0 := by kernel_rfl
theorem signsType : (Tryz.prog.globals[0]?).map (·.type) = some 72 := by kernel_rfl
/-- What the row lists of the brackets. -/
theorem signs {W : World} (h : laidMetH Tryz.prog Rows.reduceInvertsExpandRow.laid W) : (cellsAt ⟨0, 0, none⟩ [.int .u8 0, .int .u8 0, .int .u8 91, .int .u8 93, .int .u8 123, .int .u8 125]).ok (fun k => k < W.heap.size) W := by
  obtain ⟨g, t, cs, fuel, p, h1, h2, h3, h4⟩ := laidH_at (by kernel_rfl) h "busbar/tree.signs" Rows.laid_busbar_tree_signs (by simp [Rows.reduceInvertsExpandRow])
  obtain rfl := Option.some.inj (signsNamed.symm.trans h1)
  obtain rfl := Option.some.inj (signsType.symm.trans h2)
  obtain ⟨hl, hr⟩ := rows_of_tab (rows := [[0, 0], [91, 93], [123, 125]]) Tryz.underlying72 Tryz.underlying71 Tryz.underlying5 (by kernel_rfl) (by kernel_rfl) (by kernel_rfl) rfl h4
  have e : cs.toList = [.int .u8 0, .int .u8 0, .int .u8 91, .int .u8 93, .int .u8 123, .int .u8 125] := by
    have r0 := hr 0 (by decide)
    have r1 := hr 1 (by decide)
    have r2 := hr 2 (by decide)
    generalize cs.toList = l at *
    match l, hl with
    | [a, b, c, d, e, f], _ => simp_all
  refine ⟨var_lt signsNamed h3, fun i u hu => ?_⟩
  have hc := World.var?_cell signsNamed h3 i
  rw [add_plain, Nat.zero_add, hc, ← Array.getElem?_toList, e]
  exact hu
theorem contract (H : Type) (enc : TypeId × Value → H) (W : World) (base : Nat) (args : Array Value) (ds gs : List (DataW H)) (before : List MemPlace)
    (hval : ∀ (j : Nat) t v, Tryz.f3.params[j]? = some t → args[j]? = some v → Value.okWide Tryz.prog W .any base t v)
    (hW : DataW.Whole enc Tryz.prog Tryz.f3.params.toList Rows.reduceInvertsExpandSpec.vars false W args.toList ds gs before) (hL : laidMetH Tryz.prog Rows.reduceInvertsExpandRow.laid W) :
    Calls Tryz.prog 3 args W fun e W' => ∃ v, e = .returned v ∧ Rows.reduceInvertsExpandSpec.post enc Tryz.prog Tryz.f3 false true false false W args v W' := by
  have hW' := hW
  obtain ⟨p, q, hA0, hV, rfl, hfz, hnd⟩ := hW
  have hA : DataW.TrodAll enc Tryz.prog W 0 (fun _ => true) true Tryz.f3.params.toList args.toList ds p := hA0
  rw [Tryz.params3] at hA hval
  obtain ⟨v0, vs0, d0, ds0, p0, q0, hargs, rfl, rfl, h0, r0⟩ := trodAll_cons hA
  obtain ⟨v1, vs1, d1, ds1, p1, q1, rfl, rfl, rfl, h1, r1⟩ := trodAll_cons r0
  obtain ⟨rfl, rfl, rfl⟩ := trodAll_nil r1
  obtain rfl : args = #[v0, v1] := by cases args; simp_all
  obtain ⟨rfl, rfl⟩ := trodVars_none hV
  obtain ⟨t, A, c, rfl, hrd⟩ := arg_tree treeT (hval 0 24 v0 rfl rfl) h0
  obtain ⟨n, rfl, rfl, rfl, hwf⟩ := open_int Tryz.underlying5 (hval 1 5 _ rfl rfl) h1
  have hn : 0 ≤ n ∧ n ≤ 255 := bounds_u8 hwf
  have hno : ∀ F, F ∈ [rd kTree A c t.kids, cellsAt ⟨0, 0, none⟩ [.int .u8 0, .int .u8 0, .int .u8 91, .int .u8 93, .int .u8 123, .int .u8 125]] → ∀ k, ¬ F.own k := by
    intro F hF
    rcases List.mem_cons.1 hF with rfl | hF
    · exact fun _ h => h
    · obtain rfl := List.mem_singleton.1 hF
      exact fun _ h => h
  refine ((lawW t n A c hn).calls W (fun F hF => ?_) hno).mono fun e W' ⟨v, Δ, he, ⟨hv, _⟩, hb⟩ => ⟨v, he, ?_⟩
  · rcases List.mem_cons.1 hF with rfl | hF
    · exact hrd
    · obtain rfl := List.mem_singleton.1 hF
      exact signs hL
  · subst hv
    exact law_post rfl rfl (by kernel_rfl) Tryz.underlying4 (by kernel_rfl) (by rw [Tryz.params3]; intro t ht; simp at ht; rcases ht with rfl | rfl <;> exact ⟨by kernel_rfl, of_decide_eq_true (by kernel_rfl)⟩) hW' hb
/-- A world for the witness: the settled one, the listed variables as the text lays them. -/
def laidCells : DataW Unit → Array Value
  | .agg l => (l.map fun | .lit (.int k n) => Value.int k n | _ => undef).toArray
  | _ => #[]
def setRow (g : Nat) (cs : Array Value) (h : Array Obj) : Array Obj := h.modify g fun
  | .cells _ t frozen => .cells cs t frozen
  | o => o
noncomputable def laidWorld (os : Os) : World :=
  { World.holding Tryz.prog os ⟨#[], #[], []⟩ with heap := setRow 0 #[.int .u8 0, .int .u8 0, .int .u8 91, .int .u8 93, .int .u8 123, .int .u8 125] (setRow 1 (laidCells Rows.laid_internal_strconv_uint64pow10) (setRow 3 (laidCells Rows.laid_math_bits_deBruijn32tab) (setRow 4 (laidCells Rows.laid_math_bits_deBruijn64tab) (World.holding Tryz.prog os ⟨#[], #[], []⟩).heap))) }
abbrev arg0 : Array Value := #[.agg #[.int .i64 0, .int .i64 0, .slice none 0 0], .int .u8 0]
theorem laid_met (os : Os) : laidMet Tryz.prog Rows.reduceInvertsExpandRow.laid ((laidWorld os).forCall (fun _ _ => 0) ⟨#[], arg0, []⟩).memory :=
  laidMet_of_run' 8 (by kernel_rfl) (by kernel_rfl)
theorem reads (os : Os) {H : Type} (enc : TypeId × Value → H) : ∃ places, DataW.whole enc Tryz.prog ((laidWorld os).forCall (fun _ _ => 0) ⟨#[], arg0, []⟩).memory Tryz.f3.params.toList Rows.reduceInvertsExpandSpec.vars false arg0.toList 8 = some ([.agg [.lit (.int .i64 0), .lit (.int .i64 0), .nil], .lit (.int .u8 0)], [], places) :=
  ⟨[], by kernel_rfl⟩
theorem lifted (os : Os) (started : os.Started) (H : Type) (enc : TypeId × Value → H) (F : Stop.Interp) :
    ReturnsInHanded {} Tryz.checked os 3 .any ((OpenSpec.ofChange Rows.reduceInvertsExpandSpec).preRow enc Tryz.prog Tryz.f3 Rows.reduceInvertsExpandRow.domain false Rows.reduceInvertsExpandRow.laid) (((OpenSpec.ofChange Rows.reduceInvertsExpandSpec).at F).post enc Tryz.prog Tryz.f3 false true false false) := by
  obtain ⟨places, hx⟩ := reads os enc
  refine returnsInHanded_of_row (C := Tryz.checked) (s := OpenSpec.ofChange Rows.reduceInvertsExpandSpec) own started (by kernel_rfl) Tryz.func3
    (witness_row_at (enc := enc) (C := Tryz.checked) false (laidWorld os) arg0 rfl (by kernel_rfl) (by kernel_rfl) (by kernel_rfl)
      (OpenSpec.preRow_of_cond 8 hx (by kernel_rfl) (fun k hk => by cases hk) (by kernel_rfl) (laid_met os))) ?_
  intro W base args ds gs before hval hW _ _ _ hL _ _
  exact contract H enc W base args ds gs before hval hW hL
theorem said : Rows.ReduceInvertsExpandSaid :=
  OpenClaim.holds_of_cond 3 Tryz.f3 rfl rfl rfl rfl rfl rfl rfl ⟨rfl, rfl, rfl, rfl, rfl⟩ rfl rfl rfl rfl rfl (by kernel_rfl) Tryz.func3 (by kernel_rfl)
    (of_decide_eq_true (by kernel_rfl)) (by unfold Func.isWrapper; first | (rw [if_pos (by decide +kernel)]; kernel_rfl) | (rw [if_neg (by decide +kernel)]; exact ⟨rfl, rfl⟩))
    (fun os started H enc _ F => by rw [OpenClaim.pre_eq_preRow]; exact lifted os started H enc F)
theorem plain (f : FuncId) (fn : Func) (hf : Tryz.pinned.checked.prog.funcNamed "busbar/busbarlaw15.ReduceInvertsExpand" = some f) (hfn : Tryz.pinned.checked.prog.funcs[f]? = some fn) :
    false = Tryz.pinned.checked.prog.looks [] ∧ ∀ (j : Nat) t, fn.params[j]? = some t → Tryz.pinned.checked.prog.wantsStandIn t = false := by
  obtain rfl : f = 3 := Option.some.inj ((show Tryz.prog.funcNamed "busbar/busbarlaw15.ReduceInvertsExpand" = some 3 by kernel_rfl).symm.trans hf) |>.symm
  obtain rfl : fn = Tryz.f3 := (Option.some.inj (Tryz.func3.symm.trans hfn)).symm
  refine ⟨by kernel_rfl, fun j t ht => ?_⟩
  rw [Tryz.params3] at ht
  have hm : t = 24 ∨ t = 5 := by simpa using Array.mem_of_getElem? ht
  rcases hm with rfl | rfl
  · exact (show Tryz.prog.wantsStandIn 24 = false by kernel_rfl)
  · exact (show Tryz.prog.wantsStandIn 5 = false by kernel_rfl)
end Sep
/-- THE CARD. -/
theorem invert_card : Rows.ReduceInvertsExpandCardSaid :=
  Claim7.holds_tied_plain_at .later [] _ _ _ _ Sep.said (fun _ h => by cases h) (by kernel_rfl) (fun _ h => by cases h) reduceInvertsExpand_row_tie rfl ⟨rfl, rfl⟩ (by kernel_rfl) rfl Sep.plain (by kernel_rfl)
#print axioms invert_card
end Go.Proofs.YtkhmbhdlfpalkaaGreatDoor
