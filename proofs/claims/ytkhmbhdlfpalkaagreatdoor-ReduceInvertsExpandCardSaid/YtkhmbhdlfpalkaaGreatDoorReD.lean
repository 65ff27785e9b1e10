/- Texts of this proof, joined: what is of no program, and the walks of its functions -/
import Derived.Test.YtkhmbhdlfpalkaaGreatDoorReC
set_option autoImplicit false
set_option linter.unusedVariables false
set_option linter.unusedSimpArgs false
set_option linter.unusedSectionVars false
set_option maxRecDepth 100000
/- A walk, printed by gen.py out of hints. -/
namespace Go.Proofs.YtkhmbhdlfpalkaaGreatDoor.Sep
open Go
variable {μ : Prop}
theorem ofW_ih (m : Nat) : ∀ (t : PT) (A : Option Addr) (c : Nat), SizeOf.sizeOf t < m → (t.nodes ≤ 1000000) → Spec μ Tryz.prog 7 #[.agg [.int .i64 t.kind, .int .i64 t.n, .slice A t.kids.length c].toArray] [rd kTree A c t.kids] fun v Δ => ∃ A1 c1, v = .agg #[.int .i64 t.kind, .int .i64 t.n, .slice A1 t.kids.length c1] ∧ Δ = [rd kTree A1 c1 t.kids] := by
  induction m with
  | zero => exact fun t A c h => absurd h (Nat.not_lt_zero _)
  | succ m ih =>
  intro t A c hsz hnd
  refine Spec.of_body (n := 27) Tryz.func7 rfl rfl rfl fun w0 S0 O0 => ?_
  show WC _ _ _ _ _ _ [(0, .agg [.int .i64 t.kind, .int .i64 t.n, .slice A t.kids.length c].toArray)] [rd kTree A c t.kids]
  refine WC.learn (Z := Unit) (Δ := fun _ => []) (φ := fun _ => t.kids.length ≤ c ∧ c ≤ 9223372036854775807) 0 rfl (fun S w h => ⟨(), rd_bounds h, nofacts⟩) ?_
  rintro _ ⟨hb_1, hb_2⟩
  refine WC.seq ?_
  refine WC.region ?_
  refine WL.loud (.nil) (Ld.box rfl rfl) trivial rfl ?_
  rintro _ _ ⟨b_1, rfl, rfl⟩
  refine WL.loud (.nil) (Ld.alloc ti31 rfl) trivial rfl ?_
  rintro _ _ ⟨b_2, rfl, rfl⟩
  refine WL.nil ?_
  refine WX.next ?_
  refine WC.seq ?_
  refine WC.region ?_
  refine WL.quiet (Qt.fieldAddrB tf24_0 rfl) rfl rfl ?_
  refine WL.quiet (Qt.loadB 1 rfl ta3 rfl rfl) rfl rfl ?_
  refine WL.quiet (Qt.fieldAddrB tf24_1 rfl) rfl rfl ?_
  refine WL.quiet (Qt.loadB 1 rfl ta3 rfl rfl) rfl rfl ?_
  refine WL.quiet (Qt.build tp31 ti31 rfl rfl rfl) rfl rfl ?_
  refine WL.loud (.nil) (Ld.alloc ti31 rfl) trivial rfl ?_
  rintro _ _ ⟨b_3, rfl, rfl⟩
  refine WL.loud (.take 0 rfl (.nil)) (Ld.store ti31 rfl rfl rfl rfl rfl rfl) trivial rfl ?_
  rintro _ _ rfl
  refine WL.nil ?_
  refine WX.next ?_
  refine WC.seq ?_
  refine WC.seq ?_
  refine WC.region ?_
  refine WL.quiet (Qt.fieldAddrB tf24_2 rfl) rfl rfl ?_
  refine WL.quiet (Qt.loadB 2 rfl ta22 rfl rfl) rfl rfl ?_
  refine WL.quiet (Qt.lenS Tryz.underlying22 rfl) rfl rfl ?_
  refine WL.quiet (Qt.move rfl) rfl rfl ?_
  refine WL.nil ?_
  refine WX.next ?_
  refine WC.block ?_
  refine WC.turn (.nil) (nil_row (e := kTree) (t := 31)) ?_
  rintro _ rfl
  refine WC.loop (fun w0 : Nat × (Option Addr) × Nat × (List PT) => [(2, .pointer (some ⟨b_2, 0, none⟩)), (3, .pointer (some ⟨b_3, 0, none⟩)), (12, .slice A t.kids.length c), (13, .int .i64 ((t.kids.length : Nat) : Int)), (14, .int .i64 ((w0.1 : Nat) : Int))]) (fun w0 => [row kTree 31 w0.2.1 w0.2.2.1 w0.2.2.2, blk b_3 31 [.int .i64 t.kind, .int .i64 t.n, .slice w0.2.1 w0.2.2.2.length w0.2.2.1], blk b_2 31 [.int .i64 0, .int .i64 0, .slice none 0 0], blk b_1 24 [.int .i64 t.kind, .int .i64 t.n, .slice A t.kids.length c], rd kTree A c t.kids]) (fun w0 => w0.1 ≤ t.kids.length ∧ w0.2.2.2 = t.kids.take w0.1) (fun w0 => t.kids.length - w0.1) (0, none, 0, []) ⟨Nat.zero_le _, rfl⟩ ⟨rfl, rfl, rfl, rfl, rfl, trivial⟩ (.take 0 rfl (.take 0 rfl (.take 0 rfl (.take 0 rfl (.use 0 rfl (fun _ h => h) (.nil)))))) ?_
  rintro ⟨k, A1, c1, acc⟩ ⟨hk, hacc⟩
  try dsimp only at hk hacc
  show WC _ _ _ _ _ _ [(2, .pointer (some ⟨b_2, 0, none⟩)), (3, .pointer (some ⟨b_3, 0, none⟩)), (12, .slice A t.kids.length c), (13, .int .i64 ((t.kids.length : Nat) : Int)), (14, .int .i64 ((k : Nat) : Int))] [row kTree 31 A1 c1 acc, blk b_3 31 [.int .i64 t.kind, .int .i64 t.n, .slice A1 acc.length c1], blk b_2 31 [.int .i64 0, .int .i64 0, .slice none 0 0], blk b_1 24 [.int .i64 t.kind, .int .i64 t.n, .slice A t.kids.length c], rd kTree A c t.kids]
  refine WC.seq ?_
  refine WC.region ?_
  refine WL.quiet (Qt.lss rfl rfl) rfl rfl ?_
  refine WL.nil ?_
  refine WX.next ?_
  refine WC.seq ?_
  refine WC.condD rfl (fun hc_1 => ?_) (fun hc_1 => ?_)
  ·
    refine WC.skip ?_
    refine WX.next ?_
    refine WC.seq ?_
    refine WC.block ?_
    refine WC.seq ?_
    refine WC.region ?_
    have hj_1 : k < t.kids.length := by omega
    refine WL.learn 4 rfl (rd_at k hj_1 (vTree _)) ?_
    rintro ⟨p_1, ⟨A_1, c_1⟩⟩ hA_1
    refine WL.quiet (Qt.indexAddrE k hA_1 Tryz.underlying22 ti24 rfl rfl (by first | assumption | omega)) rfl rfl ?_
    refine WL.quiet (Qt.loadCA (p := p_1.add (k * 3)) (o := 0) 0 rfl ta24 ti24 rfl rfl) rfl rfl ?_
    refine WL.loud (.nil) (Ld.alloc ti24 rfl) trivial rfl ?_
    rintro _ _ ⟨b_4, rfl, rfl⟩
    refine WL.loud (.take 0 rfl (.nil)) (Ld.store ti24 rfl rfl rfl rfl rfl rfl) trivial rfl ?_
    rintro _ _ rfl
    refine WL.nil ?_
    refine WX.next ?_
    have hal : acc.length = k := by rw [hacc, List.length_take]; omega
    have hnk := nodes_kids t
    refine WC.draw (Γq := [blk b_4 24 [.int .i64 (t.kids[k].kind), .int .i64 (t.kids[k].n), .slice A_1 (t.kids[k].kids.length) c_1], cellsAt (p_1.add (k * 3)) [.int .i64 (t.kids[k].kind), .int .i64 (t.kids[k].n), .slice A_1 (t.kids[k].kids.length) c_1], rd kTree A_1 c_1 (t.kids[k].kids), blk b_3 31 [.int .i64 t.kind, .int .i64 t.n, .slice A1 acc.length c1], blk b_2 31 [.int .i64 0, .int .i64 0, .slice none 0 0], blk b_1 24 [.int .i64 t.kind, .int .i64 t.n, .slice A t.kids.length c], rd kTree A c t.kids]) [0, 1, 2, 3, 4, 5] mixed ?_
    refine WA.take (by kernel_rfl) 0 (by decide) rfl (by kernel_rfl) (by kernel_rfl) (by kernel_rfl) (Calm.inBlock (Calm.then (Calm.then (Calm.inBlock (Calm.then (calm_FQ _ _)))))) (Qt.fieldAddrB tf31_2 rfl) trivial rfl (.take 0 rfl (.use 0 rfl (fun _ h => h) (.use 1 rfl (fun _ h => h) (.take 3 rfl (.take 3 rfl (.take 3 rfl (.use 3 rfl (fun _ h => h) (.nil)))))))) ?_
    refine WA.take (by kernel_rfl) 1 (by decide) rfl (by kernel_rfl) (by kernel_rfl) (by kernel_rfl) (Calm.inBlock (Calm.then (Calm.then (Calm.inBlock (Calm.then (calm_FQ _ _)))))) (Qt.loadB 3 rfl ta29 rfl rfl) trivial rfl (.take 0 rfl (.use 0 rfl (fun _ h => h) (.use 1 rfl (fun _ h => h) (.take 3 rfl (.take 3 rfl (.take 3 rfl (.use 3 rfl (fun _ h => h) (.nil)))))))) ?_
    refine WA.take (by kernel_rfl) 2 (by decide) rfl (by kernel_rfl) (by kernel_rfl) (by kernel_rfl) (Calm.inBlock (Calm.then (Calm.then (Calm.inBlock (Calm.then (calm_FQ _ _)))))) (Qt.loadBA 0 rfl ta24 ti24 rfl rfl) trivial rfl (.take 0 rfl (.use 0 rfl (fun _ h => h) (.use 1 rfl (fun _ h => h) (.take 3 rfl (.take 3 rfl (.take 3 rfl (.use 3 rfl (fun _ h => h) (.nil)))))))) ?_
    refine WA.one 3 (by kernel_rfl) ?_
    refine WO.call rfl (.use 2 rfl (fun _ h => h) (.nil)) (Cl.func cb7 rfl) (ih (t.kids[k]) _ _ (by have := kid_size t k (by omega); omega) (by have := nodes_kid t k (by omega); omega)) trivial rfl (by rintro _ _ ⟨A_2, c_2, rfl, rfl⟩; exact ⟨_, (.take 1 rfl (.use 1 rfl (fun _ h => h) (.use 2 rfl (fun _ h => h) (.take 4 rfl (.take 4 rfl (.take 4 rfl (.use 4 rfl (fun _ h => h) (.nil))))))))⟩) ?_
    rintro _ _ ⟨A_2, c_2, rfl, rfl⟩
    refine WA.one 4 (by kernel_rfl) ?_
    refine WO.loud rfl (.nil) (Ld.buildSlice (zs := [.int .i64 0, .int .i64 0, .slice none 0 0]) Tryz.underlying29 ti31 rfl rfl (by kernel_rfl) rfl rfl) trivial rfl (by rintro _ _ ⟨b_5, rfl, rfl⟩; exact ⟨_, (.take 2 rfl (.use 2 rfl (fun _ h => h) (.use 3 rfl (fun _ h => h) (.take 5 rfl (.take 5 rfl (.take 5 rfl (.use 5 rfl (fun _ h => h) (.nil))))))))⟩) ?_
    rintro _ _ ⟨b_5, rfl, rfl⟩
    refine WA.one 5 (by kernel_rfl) ?_
    refine WO.loud rfl (.take 5 rfl (.take 0 rfl (.use 0 rfl (fun _ h => h) (.nil)))) (Ld.append1 (e := kTree) (xs := acc) (t.kids[k]) Tryz.underlying29 ti31 rfl (by decide) (by decide) rfl rfl (by first | omega | (simp; omega)) (fun S w h => mkTreeE (h _ (by simp)))) trivial rfl (by rintro _ _ ⟨A_3, c_3, rfl, rfl⟩; exact ⟨_, (.take 2 rfl (.use 2 rfl (fun _ h => h) (.use 3 rfl (fun _ h => h) (.take 4 rfl (.take 4 rfl (.take 4 rfl (.use 4 rfl (fun _ h => h) (.nil))))))))⟩) ?_
    rintro _ _ ⟨A_3, c_3, rfl, rfl⟩
    refine WA.phase (K' := [0, 1, 2, 3, 4, 5, 6]) (Γq' := [row kTree 31 A_3 c_3 (acc ++ [t.kids[k]]), rd kTree A_2 c_2 (t.kids[k].kids), blk b_4 24 [.int .i64 (t.kids[k].kind), .int .i64 (t.kids[k].n), .slice A_1 (t.kids[k].kids.length) c_1], cellsAt (p_1.add (k * 3)) [.int .i64 (t.kids[k].kind), .int .i64 (t.kids[k].n), .slice A_1 (t.kids[k].kids.length) c_1], rd kTree A_1 c_1 (t.kids[k].kids), blk b_3 31 [.int .i64 t.kind, .int .i64 t.n, .slice A1 acc.length c1], blk b_2 31 [.int .i64 0, .int .i64 0, .slice none 0 0], blk b_1 24 [.int .i64 t.kind, .int .i64 t.n, .slice A t.kids.length c], rd kTree A c t.kids]) (by kernel_rfl) ?_
    refine WA.take (by kernel_rfl) 6 (by decide) rfl (by kernel_rfl) (by kernel_rfl) (by kernel_rfl) (Calm.inBlock (Calm.then (Calm.then (Calm.inBlock (Calm.then (calm_FQ _ _)))))) (Qt.fieldAddrB tf31_2 rfl) trivial rfl (.take 0 rfl (.use 0 rfl (fun _ h => h) (.take 1 rfl (.use 1 rfl (fun _ h => h) (.use 2 rfl (fun _ h => h) (.take 3 rfl (.take 3 rfl (.take 3 rfl (.use 3 rfl (fun _ h => h) (.nil)))))))))) ?_
    refine WA.phase (K' := [0, 1, 2, 3, 4, 5, 6, 7]) (Γq' := [row kTree 31 A_3 c_3 (acc ++ [t.kids[k]]), rd kTree A_2 c_2 (t.kids[k].kids), blk b_4 24 [.int .i64 (t.kids[k].kind), .int .i64 (t.kids[k].n), .slice A_1 (t.kids[k].kids.length) c_1], cellsAt (p_1.add (k * 3)) [.int .i64 (t.kids[k].kind), .int .i64 (t.kids[k].n), .slice A_1 (t.kids[k].kids.length) c_1], rd kTree A_1 c_1 (t.kids[k].kids), blk b_2 31 [.int .i64 0, .int .i64 0, .slice none 0 0], blk b_1 24 [.int .i64 t.kind, .int .i64 t.n, .slice A t.kids.length c], rd kTree A c t.kids]) (by kernel_rfl) ?_
    refine WA.one 7 (by kernel_rfl) ?_
    refine WO.loud rfl (.take 5 rfl (.nil)) (Ld.store ti29 rfl rfl rfl rfl rfl rfl) trivial rfl (by rintro _ _ rfl; exact ⟨_, (.take 1 rfl (.use 1 rfl (fun _ h => h) (.take 2 rfl (.use 2 rfl (fun _ h => h) (.use 3 rfl (fun _ h => h) (.take 4 rfl (.take 4 rfl (.use 4 rfl (fun _ h => h) (.nil)))))))))⟩) ?_
    rintro _ _ rfl
    refine WA.done (by kernel_rfl) ?_
    refine WX.block_end ?_
    refine WX.next ?_
    refine WC.region ?_
    refine WL.quiet (Qt.add rfl rfl (by omega)) rfl rfl ?_
    refine WL.quiet (Qt.move rfl) rfl rfl ?_
    refine WL.nil ?_
    exact WX.back (k + 1, A_3, c_3, acc ++ [t.kids[k]]) ⟨by omega, by rw [take_succ _ _ (by omega), hacc]⟩ (by first | omega | (dsimp only; omega) | (simp; omega)) ⟨rfl, rfl, rfl, rfl, rfl, trivial⟩ (.take 1 rfl (.take 0 rfl (.take 4 rfl (.take 4 rfl (.use 4 rfl (fun _ h => h) (.nil))))))
  ·
    refine WC.exit ?_
    refine WX.pass_exit ?_
    refine WX.pass_exit ?_
    refine WX.block_exit ?_
    refine WX.next ?_
    refine WC.seq ?_
    have haL : acc = t.kids := by rw [hacc, List.take_of_length_le (by omega)]
    subst haL
    refine WC.region ?_
    refine WL.quiet (Qt.loadBA 1 rfl ta31 ti31 rfl rfl) rfl rfl ?_
    refine WL.loud (.take 2 rfl (.nil)) (Ld.store ti31 rfl rfl rfl rfl rfl rfl) trivial rfl ?_
    rintro _ _ rfl
    refine WL.nil ?_
    refine WX.next ?_
    refine WC.ret ?_
    refine WX.turn (.take 1 rfl (.nil)) (freeze_row) ?_
    rintro _ rfl
    refine WX.retC 1 (.use 0 rfl (fun _ h => h) (.nil)) rfl rfl rfl ta31 ti31 rfl ?_
    exact ⟨_, _, rfl, rfl⟩
theorem ofW (t : PT) (A : Option Addr) (c : Nat) (hnd : t.nodes ≤ 1000000) : Spec μ Tryz.prog 7 #[.agg [.int .i64 t.kind, .int .i64 t.n, .slice A t.kids.length c].toArray] [rd kTree A c t.kids] fun v Δ => ∃ A1 c1, v = .agg #[.int .i64 t.kind, .int .i64 t.n, .slice A1 t.kids.length c1] ∧ Δ = [rd kTree A1 c1 t.kids] := ofW_ih _ t A c (Nat.lt_succ_self _) hnd

end Go.Proofs.YtkhmbhdlfpalkaaGreatDoor.Sep

/- A walk, printed by gen.py out of hints. -/
namespace Go.Proofs.YtkhmbhdlfpalkaaGreatDoor.Sep
open Go
variable {μ : Prop}
theorem leavesR_ih (m : Nat) : ∀ (t : PT) (A : Option Addr) (c : Nat), SizeOf.sizeOf t < m → (t.leaves.length ≤ 1000000) → Spec μ Tryz.prog 6 #[.agg [.int .i64 t.kind, .int .i64 t.n, .slice A t.kids.length c].toArray] [rd kTree A c t.kids] fun v Δ => ∃ A1 c1, v = .slice A1 t.leaves.length c1 ∧ Δ = [row kInt 3 A1 c1 t.leaves] := by
  induction m with
  | zero => exact fun t A c h => absurd h (Nat.not_lt_zero _)
  | succ m ih =>
  intro t A c hsz hlen
  refine Spec.of_body (n := 35) Tryz.func6 rfl rfl rfl fun w0 S0 O0 => ?_
  show WC _ _ _ _ _ _ [(0, .agg [.int .i64 t.kind, .int .i64 t.n, .slice A t.kids.length c].toArray)] [rd kTree A c t.kids]
  refine WC.learn (Z := Unit) (Δ := fun _ => []) (φ := fun _ => t.kids.length ≤ c ∧ c ≤ 9223372036854775807) 0 rfl (fun S w h => ⟨(), rd_bounds h, nofacts⟩) ?_
  rintro _ ⟨hb_1, hb_2⟩
  refine WC.seq ?_
  refine WC.region ?_
  refine WL.loud (.nil) (Ld.box rfl rfl) trivial rfl ?_
  rintro _ _ ⟨b_1, rfl, rfl⟩
  refine WL.quiet (Qt.assign rfl) rfl rfl ?_
  refine WL.nil ?_
  refine WX.next ?_
  refine WC.seq ?_
  refine WC.seq ?_
  refine WC.region ?_
  refine WL.quiet (Qt.fieldAddrB tf31_0 rfl) rfl rfl ?_
  refine WL.quiet (Qt.loadB 0 rfl ta3 rfl rfl) rfl rfl ?_
  refine WL.quiet (Qt.eql rfl rfl) rfl rfl ?_
  refine WL.nil ?_
  refine WX.next ?_
  refine WC.condD rfl (fun hc_1 => ?_) (fun hc_1 => ?_)
  ·
    refine WC.seq ?_
    refine WC.region ?_
    refine WL.quiet (Qt.fieldAddrB tf31_1 rfl) rfl rfl ?_
    refine WL.quiet (Qt.loadB 0 rfl ta3 rfl rfl) rfl rfl ?_
    refine WL.loud (.nil) (Ld.buildSlice (zs := [.int .i64 0]) Tryz.underlying27 ti3 rfl rfl (by kernel_rfl) rfl rfl) trivial rfl ?_
    rintro _ _ ⟨b_2, rfl, rfl⟩
    refine WL.quiet (Qt.assign rfl) rfl rfl ?_
    refine WL.nil ?_
    refine WX.next ?_
    refine WC.ret ?_
    refine WX.pass_ret ?_
    have hl0 := leaves_leaf t (by omega)
    refine WX.turn (.take 0 rfl (.nil)) (blk_row (e := kInt) (U := []) [t.n] (fun F hF => nomatch hF) (fun S w h => Reps.one rfl) (by simp)) ?_
    rintro _ rfl
    refine WX.ret1 (.take 0 rfl (.nil)) rfl rfl ?_
    exact ⟨_, _, by rw [hl0] <;> rfl, by rw [hl0] <;> rfl⟩
  ·
    refine WC.skip ?_
    refine WX.next ?_
    refine WC.seq ?_
    refine WC.cut (fun _ : Unit => [(1, .pointer (some ⟨b_1, 0, none⟩)), (2, .slice none 0 0), (18, .bool (decide (((t.kind : Int) ≠ 1) ∧ ((t.kind : Int) ≠ 2))))]) (fun _ => [blk b_1 31 [.int .i64 t.kind, .int .i64 t.n, .slice A t.kids.length c], rd kTree A c t.kids]) (fun _ => True) ?_ ?_
    ·
      refine WC.region ?_
      refine WL.quiet (Qt.fieldAddrB tf31_0 rfl) rfl rfl ?_
      refine WL.quiet (Qt.loadB 0 rfl ta3 rfl rfl) rfl rfl ?_
      refine WL.quiet (Qt.neq rfl rfl) rfl rfl ?_
      refine WL.quiet (Qt.move rfl) rfl rfl ?_
      refine WL.splitD 14 rfl rfl (fun hg_1 => ?_) (fun hg_1 => ?_)
      ·
        refine WL.quietG 3 true rfl 14 rfl rfl (Qt.fieldAddrB tf31_0 rfl) rfl ?_
        refine WL.quietG 3 true rfl 14 rfl rfl (Qt.loadB 0 rfl ta3 rfl rfl) rfl ?_
        refine WL.quietG 3 true rfl 14 rfl rfl (Qt.neq rfl rfl) rfl ?_
        refine WL.quiet (Qt.pickT rfl rfl) rfl rfl ?_
        refine WL.nil ?_
        exact WX.cut () trivial ⟨rfl, rfl, (by rw [show decide (((t.kind : Int) ≠ 1) ∧ ((t.kind : Int) ≠ 2)) = (decide ((t.kind : Int) ≠ 2)) from by first | (simp [hg_1]; done) | exact decide_eq_decide.2 (by omega) | exact decide_eq_true (by omega) | exact decide_eq_false (by omega) | (simp [hg_1] <;> omega)]; rfl), trivial⟩ (.take 0 rfl (.use 0 rfl (fun _ h => h) (.nil)))
      ·
        refine WL.skipG 3 true false rfl 14 rfl rfl rfl rfl ?_
        refine WL.skipG 3 true false rfl 14 rfl rfl rfl rfl ?_
        refine WL.skipG 3 true false rfl 14 rfl rfl rfl rfl ?_
        refine WL.quiet (Qt.pickF rfl rfl) rfl rfl ?_
        refine WL.nil ?_
        exact WX.cut () trivial ⟨rfl, rfl, (by rw [show decide (((t.kind : Int) ≠ 1) ∧ ((t.kind : Int) ≠ 2)) = false from by first | (simp [hg_1]; done) | exact decide_eq_decide.2 (by omega) | exact decide_eq_true (by omega) | exact decide_eq_false (by omega) | (simp [hg_1] <;> omega)]; rfl), trivial⟩ (.take 0 rfl (.use 0 rfl (fun _ h => h) (.nil)))
    ·
      intro _ _
      show WC _ _ _ _ _ _ [(1, .pointer (some ⟨b_1, 0, none⟩)), (2, .slice none 0 0), (18, .bool (decide (((t.kind : Int) ≠ 1) ∧ ((t.kind : Int) ≠ 2))))] [blk b_1 31 [.int .i64 t.kind, .int .i64 t.n, .slice A t.kids.length c], rd kTree A c t.kids]
      refine WC.condD rfl (fun hc_2 => ?_) (fun hc_2 => ?_)
      ·
        refine WC.seq ?_
        refine WC.region ?_
        refine WL.quiet (Qt.assign rfl) rfl rfl ?_
        refine WL.nil ?_
        refine WX.next ?_
        refine WC.ret ?_
        refine WX.pass_ret ?_
        have hlN := leaves_none t (by omega) (by omega) (by omega)
        refine WX.turn (.nil) (nil_row (e := kInt) (t := 3)) ?_
        rintro _ rfl
        refine WX.ret1 (.take 0 rfl (.nil)) rfl rfl ?_
        exact ⟨_, _, by rw [hlN] <;> rfl, by rw [hlN] <;> rfl⟩
      ·
        refine WC.skip ?_
        refine WX.next ?_
        refine WC.seq ?_
        have hL : t.leaves = leavesL t.kids := by obtain ⟨a, b, l⟩ := t; simp only [PT.kind] at hc_1 hc_2; simp only [PT.kids]; rw [PT.leaves, if_neg hc_1, if_pos (by omega)]
        refine WC.region ?_
        refine WL.quiet (Qt.assign rfl) rfl rfl ?_
        refine WL.nil ?_
        refine WX.next ?_
        refine WC.seq ?_
        refine WC.seq ?_
        refine WC.region ?_
        refine WL.quiet (Qt.assign rfl) rfl rfl ?_
        refine WL.nil ?_
        refine WX.next ?_
        refine WC.block ?_
        refine WC.turn (.nil) (nil_row (e := kInt) (t := 3)) ?_
        rintro _ rfl
        refine WC.loop (fun w0 : Nat × (Option Addr) × Nat × (List Int) => [(1, .pointer (some ⟨b_1, 0, none⟩)), (2, .slice none 0 0), (3, .slice w0.2.1 w0.2.2.2.length w0.2.2.1), (4, .int .i64 ((w0.1 : Nat) : Int))]) (fun w0 => [row kInt 3 w0.2.1 w0.2.2.1 w0.2.2.2, blk b_1 31 [.int .i64 t.kind, .int .i64 t.n, .slice A t.kids.length c], rd kTree A c t.kids]) (fun w0 => w0.1 ≤ t.kids.length ∧ w0.2.2.2 = leavesL (t.kids.take w0.1)) (fun w0 => t.kids.length - w0.1) (0, none, 0, []) ⟨Nat.zero_le _, rfl⟩ ⟨rfl, rfl, rfl, rfl, trivial⟩ (.take 0 rfl (.take 0 rfl (.use 0 rfl (fun _ h => h) (.nil)))) ?_
        rintro ⟨k, A1, c1, acc⟩ ⟨hk, hacc⟩
        try dsimp only at hk hacc
        show WC _ _ _ _ _ _ [(1, .pointer (some ⟨b_1, 0, none⟩)), (2, .slice none 0 0), (3, .slice A1 acc.length c1), (4, .int .i64 ((k : Nat) : Int))] [row kInt 3 A1 c1 acc, blk b_1 31 [.int .i64 t.kind, .int .i64 t.n, .slice A t.kids.length c], rd kTree A c t.kids]
        refine WC.seq ?_
        refine WC.seq ?_
        refine WC.region ?_
        refine WL.quiet (Qt.move rfl) rfl rfl ?_
        refine WL.quiet (Qt.fieldAddrB tf31_2 rfl) rfl rfl ?_
        refine WL.quiet (Qt.loadB 1 rfl ta29 rfl rfl) rfl rfl ?_
        refine WL.quiet (Qt.lenS Tryz.underlying29 rfl) rfl rfl ?_
        refine WL.quiet (Qt.lss rfl rfl) rfl rfl ?_
        refine WL.nil ?_
        refine WX.next ?_
        refine WC.condD rfl (fun hc_3 => ?_) (fun hc_3 => ?_)
        ·
          refine WC.skip ?_
          refine WX.next ?_
          refine WC.seq ?_
          refine WC.block ?_
          refine WC.region ?_
          refine WL.quiet (Qt.move rfl) rfl rfl ?_
          refine WL.quiet (Qt.fieldAddrB tf31_2 rfl) rfl rfl ?_
          refine WL.quiet (Qt.loadB 1 rfl ta29 rfl rfl) rfl rfl ?_
          refine WL.quiet (Qt.move rfl) rfl rfl ?_
          have hj_1 : k < t.kids.length := by omega
          refine WL.learn 2 rfl (rd_at k hj_1 (vTree _)) ?_
          rintro ⟨p_1, ⟨A_1, c_1⟩⟩ hA_1
          refine WL.quiet (Qt.indexAddrE k hA_1 Tryz.underlying29 ti31 rfl rfl (by first | assumption | omega)) rfl rfl ?_
          refine WL.quiet (Qt.loadCA (p := p_1.add (k * 3)) (o := 0) 0 rfl ta31 ti31 rfl rfl) rfl rfl ?_
          have hkid := leavesL_kid t.kids k (by omega)
          have hacc2 : acc.length = (leavesL (t.kids.take k)).length := by rw [hacc]
          rw [← hL] at hkid
          refine WL.call (.use 1 rfl (fun _ h => h) (.nil)) (Cl.func cb6 rfl) (ih (t.kids[k]) _ _ (by have := kid_size t k (by omega); omega) (by omega)) trivial rfl ?_
          rintro _ _ ⟨A_2, c_2, rfl, rfl⟩
          refine WL.turn (.take 0 rfl (.nil)) (freeze_row) ?_
          rintro _ rfl
          refine WL.loud (.take 3 rfl (.use 0 rfl (fun _ h => h) (.nil))) (Ld.appendRd (e := kInt) (xs := acc) (ys := (t.kids[k].leaves)) Tryz.underlying27 ti3 rfl (by decide) (by decide) rfl rfl (by first | omega | (simp; omega))) trivial rfl ?_
          rintro _ _ ⟨A_3, c_3, rfl, rfl⟩
          refine WL.quiet (Qt.assign rfl) rfl rfl ?_
          refine WL.nil ?_
          refine WX.block_end ?_
          refine WX.next ?_
          refine WC.region ?_
          refine WL.quiet (Qt.move rfl) rfl rfl ?_
          refine WL.quiet (Qt.add rfl rfl (by omega)) rfl rfl ?_
          refine WL.quiet (Qt.assign rfl) rfl rfl ?_
          refine WL.nil ?_
          exact WX.back (k + 1, A_3, c_3, acc ++ t.kids[k].leaves) ⟨by omega, by rw [leavesL_take _ _ (by omega), hacc]⟩ (by first | omega | (dsimp only; omega) | (simp; omega)) ⟨rfl, rfl, rfl, rfl, trivial⟩ (.take 0 rfl (.take 3 rfl (.use 3 rfl (fun _ h => h) (.nil))))
        ·
          refine WC.exit ?_
          refine WX.pass_exit ?_
          refine WX.pass_exit ?_
          refine WX.block_exit ?_
          refine WX.next ?_
          refine WC.seq ?_
          refine WC.region ?_
          refine WL.quiet (Qt.move rfl) rfl rfl ?_
          refine WL.quiet (Qt.assign rfl) rfl rfl ?_
          refine WL.nil ?_
          refine WX.next ?_
          refine WC.ret ?_
          have hlL : acc = t.leaves := by rw [hacc, List.take_of_length_le (by omega), hL]
          subst hlL
          refine WX.ret1 (.take 0 rfl (.nil)) rfl rfl ?_
          exact ⟨_, _, rfl, rfl⟩
theorem leavesR (t : PT) (A : Option Addr) (c : Nat) (hlen : t.leaves.length ≤ 1000000) : Spec μ Tryz.prog 6 #[.agg [.int .i64 t.kind, .int .i64 t.n, .slice A t.kids.length c].toArray] [rd kTree A c t.kids] fun v Δ => ∃ A1 c1, v = .slice A1 t.leaves.length c1 ∧ Δ = [row kInt 3 A1 c1 t.leaves] := leavesR_ih _ t A c (Nat.lt_succ_self _) hlen

end Go.Proofs.YtkhmbhdlfpalkaaGreatDoor.Sep

/- A walk, printed by gen.py out of hints. -/
namespace Go.Proofs.YtkhmbhdlfpalkaaGreatDoor.Sep
open Go
variable {μ : Prop}
theorem indexTreeW (xs : List PT) (A : Option Addr) (c fid : Nat) (us : List Value) (F : Fact) (p : PT → Bool) (hcall : Callable Tryz.prog fid) (hf : ∀ (k : Nat) (hk : k < xs.length) (A : Option Addr) (c : Nat), Spec μ Tryz.prog fid ([Value.agg [.int .i64 xs[k].kind, .int .i64 xs[k].n, .slice A xs[k].kids.length c].toArray] ++ us).toArray [rd kTree A c xs[k].kids, F] fun v Δ => v = .bool (p xs[k]) ∧ Δ = [F]) : Spec μ Tryz.prog 46 #[.slice A xs.length c, .func (.func fid) #[] us.toArray] [rd kTree A c xs, F] fun v Δ => v = .int .i64 (idxF p xs) ∧ Δ = [F] := by
  refine Spec.of_body (n := 19) Tryz.func46 rfl rfl rfl fun w0 S0 O0 => ?_
  show WC _ _ _ _ _ _ [(0, .slice A xs.length c), (1, .func (.func fid) #[] us.toArray)] [rd kTree A c xs, F]
  refine WC.learn (Z := Unit) (Δ := fun _ => []) (φ := fun _ => xs.length ≤ c ∧ c ≤ 9223372036854775807) 0 rfl (fun S w h => ⟨(), rd_bounds h, nofacts⟩) ?_
  rintro _ ⟨hb_1, hb_2⟩
  refine WC.seq ?_
  refine WC.region ?_
  refine WL.quiet (Qt.assign rfl) rfl rfl ?_
  refine WL.nil ?_
  refine WX.next ?_
  refine WC.seq ?_
  refine WC.seq ?_
  refine WC.region ?_
  refine WL.quiet (Qt.move rfl) rfl rfl ?_
  refine WL.quiet (Qt.lenS Tryz.underlying22 rfl) rfl rfl ?_
  refine WL.quiet (Qt.move rfl) rfl rfl ?_
  refine WL.nil ?_
  refine WX.next ?_
  refine WC.block ?_
  refine WC.loop (fun w0 : Nat => [(0, .slice A xs.length c), (1, .func (.func fid) #[] us.toArray), (4, .int .i64 0), (7, .int .i64 ((xs.length : Nat) : Int)), (8, .int .i64 ((w0 : Nat) : Int))]) (fun w0 => [rd kTree A c xs, F]) (fun w0 => w0 ≤ xs.length ∧ ∀ (j : Nat) (hj : j < xs.length), j < w0 → p xs[j] = false) (fun w0 => xs.length - w0) 0 ⟨Nat.zero_le _, fun j _ h => absurd h (Nat.not_lt_zero _)⟩ ⟨rfl, rfl, rfl, rfl, rfl, trivial⟩ (.use 0 rfl (fun _ h => h) (.take 1 rfl (.nil))) ?_
  rintro k ⟨hk, hb⟩
  try dsimp only at hk hb
  show WC _ _ _ _ _ _ [(0, .slice A xs.length c), (1, .func (.func fid) #[] us.toArray), (4, .int .i64 0), (7, .int .i64 ((xs.length : Nat) : Int)), (8, .int .i64 ((k : Nat) : Int))] [rd kTree A c xs, F]
  refine WC.seq ?_
  refine WC.region ?_
  refine WL.quiet (Qt.lss rfl rfl) rfl rfl ?_
  refine WL.nil ?_
  refine WX.next ?_
  refine WC.seq ?_
  refine WC.condD rfl (fun hc_1 => ?_) (fun hc_1 => ?_)
  ·
    refine WC.skip ?_
    refine WX.next ?_
    refine WC.seq ?_
    refine WC.block ?_
    refine WC.seq ?_
    refine WC.region ?_
    refine WL.quiet (Qt.move rfl) rfl rfl ?_
    refine WL.quiet (Qt.assign rfl) rfl rfl ?_
    refine WL.nil ?_
    refine WX.next ?_
    refine WC.seq ?_
    refine WC.region ?_
    refine WL.quiet (Qt.move rfl) rfl rfl ?_
    refine WL.quiet (Qt.move rfl) rfl rfl ?_
    refine WL.quiet (Qt.move rfl) rfl rfl ?_
    have hj_1 : k < xs.length := by omega
    refine WL.learn 0 rfl (rd_at k hj_1 (vTree _)) ?_
    rintro ⟨p_1, ⟨A_1, c_1⟩⟩ hA_1
    refine WL.quiet (Qt.indexAddrE k hA_1 Tryz.underlying22 ti24 rfl rfl (by first | assumption | omega)) rfl rfl ?_
    refine WL.quiet (Qt.loadCA (p := p_1.add (k * 3)) (o := 0) 0 rfl ta24 ti24 rfl rfl) rfl rfl ?_
    refine WL.call (.use 1 rfl (fun _ h => h) (.take 3 rfl (.nil))) (Cl.val hcall rfl rfl) (hf k _ _ _) trivial rfl ?_
    rintro _ _ ⟨rfl, rfl⟩
    refine WL.nil ?_
    refine WX.next ?_
    refine WC.cond rfl (fun hc_2 => ?_) (fun hc_2 => ?_)
    ·
      refine WC.seq ?_
      refine WC.region ?_
      refine WL.quiet (Qt.move rfl) rfl rfl ?_
      refine WL.quiet (Qt.assign rfl) rfl rfl ?_
      refine WL.nil ?_
      refine WX.next ?_
      refine WC.ret ?_
      refine WX.block_ret ?_
      refine WX.pass_ret ?_
      refine WX.pass_ret ?_
      refine WX.block_ret ?_
      refine WX.pass_ret ?_
      refine WX.ret1 (.take 0 rfl (.nil)) rfl rfl ?_
      exact ⟨by rw [idxF_at (by omega) hc_2 hb], rfl⟩
    ·
      refine WC.skip ?_
      refine WX.block_end ?_
      refine WX.next ?_
      refine WC.region ?_
      refine WL.quiet (Qt.add rfl rfl (by omega)) rfl rfl ?_
      refine WL.quiet (Qt.move rfl) rfl rfl ?_
      refine WL.nil ?_
      exact WX.back (k + 1) ⟨by omega, notyet hb (by omega) hc_2⟩ (by first | omega | (dsimp only; omega) | (simp; omega)) ⟨rfl, rfl, rfl, rfl, rfl, trivial⟩ (.use 3 rfl (fun _ h => h) (.take 0 rfl (.nil)))
  ·
    refine WC.exit ?_
    refine WX.pass_exit ?_
    refine WX.pass_exit ?_
    refine WX.block_exit ?_
    refine WX.next ?_
    refine WC.seq ?_
    refine WC.region ?_
    refine WL.quiet (Qt.assign rfl) rfl rfl ?_
    refine WL.nil ?_
    refine WX.next ?_
    refine WC.ret ?_
    refine WX.ret1 (.take 1 rfl (.nil)) rfl rfl ?_
    exact ⟨by rw [idxF_none (fun j hj => hb j hj (by omega))], rfl⟩

end Go.Proofs.YtkhmbhdlfpalkaaGreatDoor.Sep

/- A walk, printed by gen.py out of hints. -/
namespace Go.Proofs.YtkhmbhdlfpalkaaGreatDoor.Sep
open Go
variable {μ : Prop}
theorem containsTreeW (xs : List PT) (A : Option Addr) (c fid : Nat) (us : List Value) (F : Fact) (p : PT → Bool) (hcall : Callable Tryz.prog fid) (hf : ∀ (k : Nat) (hk : k < xs.length) (A : Option Addr) (c : Nat), Spec μ Tryz.prog fid ([Value.agg [.int .i64 xs[k].kind, .int .i64 xs[k].n, .slice A xs[k].kids.length c].toArray] ++ us).toArray [rd kTree A c xs[k].kids, F] fun v Δ => v = .bool (p xs[k]) ∧ Δ = [F]) : Spec μ Tryz.prog 28 #[.slice A xs.length c, .func (.func fid) #[] us.toArray] [rd kTree A c xs, F] fun v Δ => v = .bool (xs.any p) ∧ Δ = [F] := by
  refine Spec.of_body (n := 9) Tryz.func28 rfl rfl rfl fun w0 S0 O0 => ?_
  show WC _ _ _ _ _ _ [(0, .slice A xs.length c), (1, .func (.func fid) #[] us.toArray)] [rd kTree A c xs, F]
  refine WC.seq ?_
  refine WC.region ?_
  refine WL.quiet (Qt.assign rfl) rfl rfl ?_
  refine WL.nil ?_
  refine WX.next ?_
  refine WC.seq ?_
  refine WC.region ?_
  refine WL.quiet (Qt.move rfl) rfl rfl ?_
  refine WL.quiet (Qt.move rfl) rfl rfl ?_
  refine WL.call (.use 0 rfl (fun _ h => h) (.take 1 rfl (.nil))) (Cl.func cb46 rfl) (indexTreeW xs _ _ fid us F p hcall hf) trivial rfl ?_
  rintro _ _ ⟨rfl, rfl⟩
  refine WL.quiet (Qt.geq rfl rfl) rfl rfl ?_
  refine WL.quiet (Qt.assign rfl) rfl rfl ?_
  refine WL.nil ?_
  refine WX.next ?_
  refine WC.ret ?_
  refine WX.ret1 (.take 0 rfl (.nil)) rfl rfl ?_
  exact ⟨by rw [← idxF_any], rfl⟩

end Go.Proofs.YtkhmbhdlfpalkaaGreatDoor.Sep

/- A walk, printed by gen.py out of hints. -/
namespace Go.Proofs.YtkhmbhdlfpalkaaGreatDoor.Sep
open Go
variable {μ : Prop}
theorem sameKindW (x t : PT) (A B : Option Addr) (c d b : Nat)  : Spec μ Tryz.prog 29 #[.agg [.int .i64 x.kind, .int .i64 x.n, .slice A x.kids.length c].toArray, .pointer (some ⟨b, 0, none⟩)] [rd kTree A c x.kids, blk b 24 [.int .i64 t.kind, .int .i64 t.n, .slice B t.kids.length d]] fun v Δ => v = .bool (decide (x.kind = t.kind)) ∧ Δ = [blk b 24 [.int .i64 t.kind, .int .i64 t.n, .slice B t.kids.length d]] := by
  refine Spec.of_body (n := 9) Tryz.func29 rfl rfl rfl fun w0 S0 O0 => ?_
  show WC _ _ _ _ _ _ [(0, .agg [.int .i64 x.kind, .int .i64 x.n, .slice A x.kids.length c].toArray), (1, .pointer (some ⟨b, 0, none⟩))] [rd kTree A c x.kids, blk b 24 [.int .i64 t.kind, .int .i64 t.n, .slice B t.kids.length d]]
  refine WC.seq ?_
  refine WC.region ?_
  refine WL.loud (.nil) (Ld.box rfl rfl) trivial rfl ?_
  rintro _ _ ⟨b_1, rfl, rfl⟩
  refine WL.quiet (Qt.assign rfl) rfl rfl ?_
  refine WL.nil ?_
  refine WX.next ?_
  refine WC.seq ?_
  refine WC.region ?_
  refine WL.quiet (Qt.fieldAddrB tf24_0 rfl) rfl rfl ?_
  refine WL.quiet (Qt.loadB 0 rfl ta3 rfl rfl) rfl rfl ?_
  refine WL.quiet (Qt.fieldAddrB tf24_0 rfl) rfl rfl ?_
  refine WL.quiet (Qt.loadB 2 rfl ta3 rfl rfl) rfl rfl ?_
  refine WL.quiet (Qt.eql rfl rfl) rfl rfl ?_
  refine WL.quiet (Qt.assign rfl) rfl rfl ?_
  refine WL.nil ?_
  refine WX.next ?_
  refine WC.ret ?_
  refine WX.ret1 (.take 2 rfl (.nil)) rfl rfl ?_
  exact ⟨rfl, rfl⟩

end Go.Proofs.YtkhmbhdlfpalkaaGreatDoor.Sep

/- A walk, printed by gen.py out of hints. -/
namespace Go.Proofs.YtkhmbhdlfpalkaaGreatDoor.Sep
open Go
variable {μ : Prop}
theorem checkW_ih (m : Nat) : ∀ (t : PT) (many : Int) (ks : List Int) (A : Option Addr) (c b : Nat), SizeOf.sizeOf t < m → Spec μ Tryz.prog 17 #[.agg [.int .i64 t.kind, .int .i64 t.n, .slice A t.kids.length c].toArray, .int .i64 many, .map (some b)] [rd kTree A c t.kids, mp intKey Value.bool b (trues ks)] fun v Δ => ∃ (e : Int) (ks1 : List Int), v = .int .i64 e ∧ Δ = [mp intKey Value.bool b (trues ks1)] ∧ (e = 0 → Vld many ks t ∧ ks1 = ks ++ t.leaves) ∧ (Vld many ks t → e = 0) := by
  induction m with
  | zero => exact fun t many ks A c b h => absurd h (Nat.not_lt_zero _)
  | succ m ih =>
  intro t many ks A c b hsz 
  refine Spec.of_body (n := 96) Tryz.func17 rfl rfl rfl fun w0 S0 O0 => ?_
  show WC _ _ _ _ _ _ [(0, .agg [.int .i64 t.kind, .int .i64 t.n, .slice A t.kids.length c].toArray), (1, .int .i64 many), (2, .map (some b))] [rd kTree A c t.kids, mp intKey Value.bool b (trues ks)]
  refine WC.learn (Z := Unit) (Δ := fun _ => []) (φ := fun _ => t.kids.length ≤ c ∧ c ≤ 9223372036854775807) 0 rfl (fun S w h => ⟨(), rd_bounds h, nofacts⟩) ?_
  rintro _ ⟨hb_1, hb_2⟩
  refine WC.seq ?_
  refine WC.region ?_
  refine WL.loud (.nil) (Ld.box rfl rfl) trivial rfl ?_
  rintro _ _ ⟨b_1, rfl, rfl⟩
  refine WL.quiet (Qt.assign rfl) rfl rfl ?_
  refine WL.nil ?_
  refine WX.next ?_
  refine WC.seq ?_
  refine WC.block ?_
  refine WC.cut (fun _ : Unit => [(1, .int .i64 many), (2, .map (some b)), (3, .pointer (some ⟨b_1, 0, none⟩)), (6, .int .i64 0), (10, .bool (decide (((t.kind : Int) < 0) ∨ ((t.kind : Int) > 2))))]) (fun _ => [blk b_1 24 [.int .i64 t.kind, .int .i64 t.n, .slice A t.kids.length c], rd kTree A c t.kids, mp intKey Value.bool b (trues ks)]) (fun _ => True) ?_ ?_
  ·
    refine WC.region ?_
    refine WL.quiet (Qt.fieldAddrB tf24_0 rfl) rfl rfl ?_
    refine WL.quiet (Qt.loadB 0 rfl ta3 rfl rfl) rfl rfl ?_
    refine WL.quiet (Qt.lss rfl rfl) rfl rfl ?_
    refine WL.quiet (Qt.move rfl) rfl rfl ?_
    refine WL.splitD 14 rfl rfl (fun hg_1 => ?_) (fun hg_1 => ?_)
    ·
      refine WL.skipG 3 false true rfl 14 rfl rfl rfl rfl ?_
      refine WL.skipG 3 false true rfl 14 rfl rfl rfl rfl ?_
      refine WL.skipG 3 false true rfl 14 rfl rfl rfl rfl ?_
      refine WL.quiet (Qt.pickT rfl rfl) rfl rfl ?_
      refine WL.quiet (Qt.assign rfl) rfl rfl ?_
      refine WL.nil ?_
      exact WX.cut () trivial ⟨rfl, rfl, rfl, rfl, (by rw [show decide (((t.kind : Int) < 0) ∨ ((t.kind : Int) > 2)) = true from by first | (simp [hg_1]; done) | exact decide_eq_decide.2 (by omega) | exact decide_eq_true (by omega) | exact decide_eq_false (by omega) | (simp [hg_1] <;> omega)]; rfl), trivial⟩ (.take 0 rfl (.use 0 rfl (fun _ h => h) (.take 1 rfl (.nil))))
    ·
      refine WL.quietG 3 false rfl 14 rfl rfl (Qt.fieldAddrB tf24_0 rfl) rfl ?_
      refine WL.quietG 3 false rfl 14 rfl rfl (Qt.loadB 0 rfl ta3 rfl rfl) rfl ?_
      refine WL.quietG 3 false rfl 14 rfl rfl (Qt.gtr rfl rfl) rfl ?_
      refine WL.quiet (Qt.pickF rfl rfl) rfl rfl ?_
      refine WL.quiet (Qt.assign rfl) rfl rfl ?_
      refine WL.nil ?_
      exact WX.cut () trivial ⟨rfl, rfl, rfl, rfl, (by rw [show decide (((t.kind : Int) < 0) ∨ ((t.kind : Int) > 2)) = (decide ((t.kind : Int) > 2)) from by first | (simp [hg_1]; done) | exact decide_eq_decide.2 (by omega) | exact decide_eq_true (by omega) | exact decide_eq_false (by omega) | (simp [hg_1] <;> omega)]; rfl), trivial⟩ (.take 0 rfl (.use 0 rfl (fun _ h => h) (.take 1 rfl (.nil))))
  ·
    intro _ _
    show WC _ _ _ _ _ _ [(1, .int .i64 many), (2, .map (some b)), (3, .pointer (some ⟨b_1, 0, none⟩)), (6, .int .i64 0), (10, .bool (decide (((t.kind : Int) < 0) ∨ ((t.kind : Int) > 2))))] [blk b_1 24 [.int .i64 t.kind, .int .i64 t.n, .slice A t.kids.length c], rd kTree A c t.kids, mp intKey Value.bool b (trues ks)]
    refine WC.condD rfl (fun hc_1 => ?_) (fun hc_1 => ?_)
    ·
      refine WC.seq ?_
      refine WC.region ?_
      refine WL.quiet (Qt.assign rfl) rfl rfl ?_
      refine WL.nil ?_
      refine WX.next ?_
      refine WC.ret ?_
      refine WX.block_ret ?_
      refine WX.pass_ret ?_
      refine WX.ret1 (.take 2 rfl (.nil)) rfl rfl ?_
      exact ⟨_, _, rfl, rfl, fun h => absurd h (by decide), fun hv => by have hs := hv.shape; omega⟩
    ·
      refine WC.cut (fun _ : Unit => [(1, .int .i64 many), (2, .map (some b)), (3, .pointer (some ⟨b_1, 0, none⟩)), (6, .int .i64 0), (19, .bool (decide ((((t.kind : Int) = 0) ∧ (((t.kids.length : Nat) : Int) > 0)) ∨ (((t.kind : Int) ≠ 0) ∧ ((t.n : Int) ≠ 0)))))]) (fun _ => [blk b_1 24 [.int .i64 t.kind, .int .i64 t.n, .slice A t.kids.length c], rd kTree A c t.kids, mp intKey Value.bool b (trues ks)]) (fun _ => True) ?_ ?_
      ·
        refine WC.region ?_
        refine WL.quiet (Qt.fieldAddrB tf24_0 rfl) rfl rfl ?_
        refine WL.quiet (Qt.loadB 0 rfl ta3 rfl rfl) rfl rfl ?_
        refine WL.quiet (Qt.eql rfl rfl) rfl rfl ?_
        refine WL.quiet (Qt.move rfl) rfl rfl ?_
        refine WL.splitD 23 rfl rfl (fun hg_2 => ?_) (fun hg_2 => ?_)
        ·
          refine WL.quietG 3 true rfl 23 rfl rfl (Qt.fieldAddrB tf24_2 rfl) rfl ?_
          refine WL.quietG 3 true rfl 23 rfl rfl (Qt.loadB 0 rfl ta22 rfl rfl) rfl ?_
          refine WL.quietG 3 true rfl 23 rfl rfl (Qt.lenS Tryz.underlying22 rfl) rfl ?_
          refine WL.quietG 3 true rfl 23 rfl rfl (Qt.gtr rfl rfl) rfl ?_
          refine WL.quiet (Qt.pickT rfl rfl) rfl rfl ?_
          refine WL.quiet (Qt.move rfl) rfl rfl ?_
          refine WL.splitD 29 rfl rfl (fun hg_3 => ?_) (fun hg_3 => ?_)
          ·
            refine WL.skipG 9 false true rfl 29 rfl rfl rfl rfl ?_
            refine WL.skipG 9 false true rfl 29 rfl rfl rfl rfl ?_
            refine WL.skipG 9 false true rfl 29 rfl rfl rfl rfl ?_
            refine WL.skipG 9 false true rfl 29 rfl rfl rfl rfl ?_
            refine WL.skipU 13 true rfl 33 rfl rfl rfl ?_
            refine WL.skipU 13 true rfl 33 rfl rfl rfl ?_
            refine WL.skipU 13 true rfl 33 rfl rfl rfl ?_
            refine WL.skipG 9 false true rfl 29 rfl rfl rfl rfl ?_
            refine WL.quiet (Qt.pickT rfl rfl) rfl rfl ?_
            refine WL.quiet (Qt.assign rfl) rfl rfl ?_
            refine WL.nil ?_
            exact WX.cut () trivial ⟨rfl, rfl, rfl, rfl, (by rw [show decide ((((t.kind : Int) = 0) ∧ (((t.kids.length : Nat) : Int) > 0)) ∨ (((t.kind : Int) ≠ 0) ∧ ((t.n : Int) ≠ 0))) = true from by first | (simp [hg_2, hg_3]; done) | exact decide_eq_decide.2 (by omega) | exact decide_eq_true (by omega) | exact decide_eq_false (by omega) | (simp [hg_2, hg_3] <;> omega)]; rfl), trivial⟩ (.take 0 rfl (.use 0 rfl (fun _ h => h) (.take 1 rfl (.nil))))
          ·
            refine WL.quietG 9 false rfl 29 rfl rfl (Qt.fieldAddrB tf24_0 rfl) rfl ?_
            refine WL.quietG 9 false rfl 29 rfl rfl (Qt.loadB 0 rfl ta3 rfl rfl) rfl ?_
            refine WL.quietG 9 false rfl 29 rfl rfl (Qt.neq rfl rfl) rfl ?_
            refine WL.quietG 9 false rfl 29 rfl rfl (Qt.move rfl) rfl ?_
            refine WL.splitD 33 rfl rfl (fun hg_4 => ?_) (fun hg_4 => ?_)
            ·
              refine WL.quietG 13 true rfl 33 rfl rfl (Qt.fieldAddrB tf24_1 rfl) rfl ?_
              refine WL.quietG 13 true rfl 33 rfl rfl (Qt.loadB 0 rfl ta3 rfl rfl) rfl ?_
              refine WL.quietG 13 true rfl 33 rfl rfl (Qt.neq rfl rfl) rfl ?_
              refine WL.quietG 9 false rfl 29 rfl rfl (Qt.pickT rfl rfl) rfl ?_
              refine WL.quiet (Qt.pickF rfl rfl) rfl rfl ?_
              refine WL.quiet (Qt.assign rfl) rfl rfl ?_
              refine WL.nil ?_
              exact WX.cut () trivial ⟨rfl, rfl, rfl, rfl, (by rw [show decide ((((t.kind : Int) = 0) ∧ (((t.kids.length : Nat) : Int) > 0)) ∨ (((t.kind : Int) ≠ 0) ∧ ((t.n : Int) ≠ 0))) = (decide ((t.n : Int) ≠ 0)) from by first | (simp [hg_2, hg_3, hg_4]; done) | exact decide_eq_decide.2 (by omega) | exact decide_eq_true (by omega) | exact decide_eq_false (by omega) | (simp [hg_2, hg_3, hg_4] <;> omega)]; rfl), trivial⟩ (.take 0 rfl (.use 0 rfl (fun _ h => h) (.take 1 rfl (.nil))))
            ·
              refine WL.skipG 13 true false rfl 33 rfl rfl rfl rfl ?_
              refine WL.skipG 13 true false rfl 33 rfl rfl rfl rfl ?_
              refine WL.skipG 13 true false rfl 33 rfl rfl rfl rfl ?_
              refine WL.quietG 9 false rfl 29 rfl rfl (Qt.pickF rfl rfl) rfl ?_
              refine WL.quiet (Qt.pickF rfl rfl) rfl rfl ?_
              refine WL.quiet (Qt.assign rfl) rfl rfl ?_
              refine WL.nil ?_
              exact WX.cut () trivial ⟨rfl, rfl, rfl, rfl, (by rw [show decide ((((t.kind : Int) = 0) ∧ (((t.kids.length : Nat) : Int) > 0)) ∨ (((t.kind : Int) ≠ 0) ∧ ((t.n : Int) ≠ 0))) = false from by first | (simp [hg_2, hg_3, hg_4]; done) | exact decide_eq_decide.2 (by omega) | exact decide_eq_true (by omega) | exact decide_eq_false (by omega) | (simp [hg_2, hg_3, hg_4] <;> omega)]; rfl), trivial⟩ (.take 0 rfl (.use 0 rfl (fun _ h => h) (.take 1 rfl (.nil))))
        ·
          refine WL.skipG 3 true false rfl 23 rfl rfl rfl rfl ?_
          refine WL.skipG 3 true false rfl 23 rfl rfl rfl rfl ?_
          refine WL.skipG 3 true false rfl 23 rfl rfl rfl rfl ?_
          refine WL.skipG 3 true false rfl 23 rfl rfl rfl rfl ?_
          refine WL.quiet (Qt.pickF rfl rfl) rfl rfl ?_
          refine WL.quiet (Qt.move rfl) rfl rfl ?_
          refine WL.quietG 9 false rfl 29 rfl rfl (Qt.fieldAddrB tf24_0 rfl) rfl ?_
          refine WL.quietG 9 false rfl 29 rfl rfl (Qt.loadB 0 rfl ta3 rfl rfl) rfl ?_
          refine WL.quietG 9 false rfl 29 rfl rfl (Qt.neq rfl rfl) rfl ?_
          refine WL.quietG 9 false rfl 29 rfl rfl (Qt.move rfl) rfl ?_
          refine WL.splitD 33 rfl rfl (fun hg_5 => ?_) (fun hg_5 => ?_)
          ·
            refine WL.quietG 13 true rfl 33 rfl rfl (Qt.fieldAddrB tf24_1 rfl) rfl ?_
            refine WL.quietG 13 true rfl 33 rfl rfl (Qt.loadB 0 rfl ta3 rfl rfl) rfl ?_
            refine WL.quietG 13 true rfl 33 rfl rfl (Qt.neq rfl rfl) rfl ?_
            refine WL.quietG 9 false rfl 29 rfl rfl (Qt.pickT rfl rfl) rfl ?_
            refine WL.quiet (Qt.pickF rfl rfl) rfl rfl ?_
            refine WL.quiet (Qt.assign rfl) rfl rfl ?_
            refine WL.nil ?_
            exact WX.cut () trivial ⟨rfl, rfl, rfl, rfl, (by rw [show decide ((((t.kind : Int) = 0) ∧ (((t.kids.length : Nat) : Int) > 0)) ∨ (((t.kind : Int) ≠ 0) ∧ ((t.n : Int) ≠ 0))) = (decide ((t.n : Int) ≠ 0)) from by first | (simp [hg_2, hg_5]; done) | exact decide_eq_decide.2 (by omega) | exact decide_eq_true (by omega) | exact decide_eq_false (by omega) | (simp [hg_2, hg_5] <;> omega)]; rfl), trivial⟩ (.take 0 rfl (.use 0 rfl (fun _ h => h) (.take 1 rfl (.nil))))
          ·
            refine WL.skipG 13 true false rfl 33 rfl rfl rfl rfl ?_
            refine WL.skipG 13 true false rfl 33 rfl rfl rfl rfl ?_
            refine WL.skipG 13 true false rfl 33 rfl rfl rfl rfl ?_
            refine WL.quietG 9 false rfl 29 rfl rfl (Qt.pickF rfl rfl) rfl ?_
            refine WL.quiet (Qt.pickF rfl rfl) rfl rfl ?_
            refine WL.quiet (Qt.assign rfl) rfl rfl ?_
            refine WL.nil ?_
            exact WX.cut () trivial ⟨rfl, rfl, rfl, rfl, (by rw [show decide ((((t.kind : Int) = 0) ∧ (((t.kids.length : Nat) : Int) > 0)) ∨ (((t.kind : Int) ≠ 0) ∧ ((t.n : Int) ≠ 0))) = false from by first | (simp [hg_2, hg_5]; done) | exact decide_eq_decide.2 (by omega) | exact decide_eq_true (by omega) | exact decide_eq_false (by omega) | (simp [hg_2, hg_5] <;> omega)]; rfl), trivial⟩ (.take 0 rfl (.use 0 rfl (fun _ h => h) (.take 1 rfl (.nil))))
      ·
        intro _ _
        show WC _ _ _ _ _ _ [(1, .int .i64 many), (2, .map (some b)), (3, .pointer (some ⟨b_1, 0, none⟩)), (6, .int .i64 0), (19, .bool (decide ((((t.kind : Int) = 0) ∧ (((t.kids.length : Nat) : Int) > 0)) ∨ (((t.kind : Int) ≠ 0) ∧ ((t.n : Int) ≠ 0)))))] [blk b_1 24 [.int .i64 t.kind, .int .i64 t.n, .slice A t.kids.length c], rd kTree A c t.kids, mp intKey Value.bool b (trues ks)]
        refine WC.condD rfl (fun hc_2 => ?_) (fun hc_2 => ?_)
        ·
          refine WC.seq ?_
          refine WC.region ?_
          refine WL.quiet (Qt.assign rfl) rfl rfl ?_
          refine WL.nil ?_
          refine WX.next ?_
          refine WC.ret ?_
          refine WX.block_ret ?_
          refine WX.pass_ret ?_
          refine WX.ret1 (.take 2 rfl (.nil)) rfl rfl ?_
          exact ⟨_, _, rfl, rfl, fun h => absurd h (by decide), fun hv => by have hs := hv.shape; omega⟩
        ·
          refine WC.cut (fun _ : Unit => [(1, .int .i64 many), (2, .map (some b)), (3, .pointer (some ⟨b_1, 0, none⟩)), (6, .int .i64 0), (39, .bool (decide (((t.kind : Int) = 0) ∧ (((t.n : Int) < 0) ∨ ((t.n : Int) ≥ many)))))]) (fun _ => [blk b_1 24 [.int .i64 t.kind, .int .i64 t.n, .slice A t.kids.length c], rd kTree A c t.kids, mp intKey Value.bool b (trues ks)]) (fun _ => True) ?_ ?_
          ·
            refine WC.region ?_
            refine WL.quiet (Qt.fieldAddrB tf24_0 rfl) rfl rfl ?_
            refine WL.quiet (Qt.loadB 0 rfl ta3 rfl rfl) rfl rfl ?_
            refine WL.quiet (Qt.eql rfl rfl) rfl rfl ?_
            refine WL.quiet (Qt.move rfl) rfl rfl ?_
            refine WL.splitD 43 rfl rfl (fun hg_6 => ?_) (fun hg_6 => ?_)
            ·
              refine WL.quietG 3 true rfl 43 rfl rfl (Qt.fieldAddrB tf24_1 rfl) rfl ?_
              refine WL.quietG 3 true rfl 43 rfl rfl (Qt.loadB 0 rfl ta3 rfl rfl) rfl ?_
              refine WL.quietG 3 true rfl 43 rfl rfl (Qt.lss rfl rfl) rfl ?_
              refine WL.quietG 3 true rfl 43 rfl rfl (Qt.move rfl) rfl ?_
              refine WL.splitD 47 rfl rfl (fun hg_7 => ?_) (fun hg_7 => ?_)
              ·
                refine WL.skipG 7 false true rfl 47 rfl rfl rfl rfl ?_
                refine WL.skipG 7 false true rfl 47 rfl rfl rfl rfl ?_
                refine WL.skipG 7 false true rfl 47 rfl rfl rfl rfl ?_
                refine WL.skipG 7 false true rfl 47 rfl rfl rfl rfl ?_
                refine WL.quietG 3 true rfl 43 rfl rfl (Qt.pickT rfl rfl) rfl ?_
                refine WL.quiet (Qt.pickT rfl rfl) rfl rfl ?_
                refine WL.quiet (Qt.assign rfl) rfl rfl ?_
                refine WL.nil ?_
                exact WX.cut () trivial ⟨rfl, rfl, rfl, rfl, (by rw [show decide (((t.kind : Int) = 0) ∧ (((t.n : Int) < 0) ∨ ((t.n : Int) ≥ many))) = true from by first | (simp [hg_6, hg_7]; done) | exact decide_eq_decide.2 (by omega) | exact decide_eq_true (by omega) | exact decide_eq_false (by omega) | (simp [hg_6, hg_7] <;> omega)]; rfl), trivial⟩ (.take 0 rfl (.use 0 rfl (fun _ h => h) (.take 1 rfl (.nil))))
              ·
                refine WL.quietG 7 false rfl 47 rfl rfl (Qt.fieldAddrB tf24_1 rfl) rfl ?_
                refine WL.quietG 7 false rfl 47 rfl rfl (Qt.loadB 0 rfl ta3 rfl rfl) rfl ?_
                refine WL.quietG 7 false rfl 47 rfl rfl (Qt.move rfl) rfl ?_
                refine WL.quietG 7 false rfl 47 rfl rfl (Qt.geq rfl rfl) rfl ?_
                refine WL.quietG 3 true rfl 43 rfl rfl (Qt.pickF rfl rfl) rfl ?_
                refine WL.quiet (Qt.pickT rfl rfl) rfl rfl ?_
                refine WL.quiet (Qt.assign rfl) rfl rfl ?_
                refine WL.nil ?_
                exact WX.cut () trivial ⟨rfl, rfl, rfl, rfl, (by rw [show decide (((t.kind : Int) = 0) ∧ (((t.n : Int) < 0) ∨ ((t.n : Int) ≥ many))) = (decide ((t.n : Int) ≥ many)) from by first | (simp [hg_6, hg_7]; done) | exact decide_eq_decide.2 (by omega) | exact decide_eq_true (by omega) | exact decide_eq_false (by omega) | (simp [hg_6, hg_7] <;> omega)]; rfl), trivial⟩ (.take 0 rfl (.use 0 rfl (fun _ h => h) (.take 1 rfl (.nil))))
            ·
              refine WL.skipG 3 true false rfl 43 rfl rfl rfl rfl ?_
              refine WL.skipG 3 true false rfl 43 rfl rfl rfl rfl ?_
              refine WL.skipG 3 true false rfl 43 rfl rfl rfl rfl ?_
              refine WL.skipG 3 true false rfl 43 rfl rfl rfl rfl ?_
              refine WL.skipU 7 false rfl 47 rfl rfl rfl ?_
              refine WL.skipU 7 false rfl 47 rfl rfl rfl ?_
              refine WL.skipU 7 false rfl 47 rfl rfl rfl ?_
              refine WL.skipU 7 false rfl 47 rfl rfl rfl ?_
              refine WL.skipG 3 true false rfl 43 rfl rfl rfl rfl ?_
              refine WL.quiet (Qt.pickF rfl rfl) rfl rfl ?_
              refine WL.quiet (Qt.assign rfl) rfl rfl ?_
              refine WL.nil ?_
              exact WX.cut () trivial ⟨rfl, rfl, rfl, rfl, (by rw [show decide (((t.kind : Int) = 0) ∧ (((t.n : Int) < 0) ∨ ((t.n : Int) ≥ many))) = false from by first | (simp [hg_6]; done) | exact decide_eq_decide.2 (by omega) | exact decide_eq_true (by omega) | exact decide_eq_false (by omega) | (simp [hg_6] <;> omega)]; rfl), trivial⟩ (.take 0 rfl (.use 0 rfl (fun _ h => h) (.take 1 rfl (.nil))))
          ·
            intro _ _
            show WC _ _ _ _ _ _ [(1, .int .i64 many), (2, .map (some b)), (3, .pointer (some ⟨b_1, 0, none⟩)), (6, .int .i64 0), (39, .bool (decide (((t.kind : Int) = 0) ∧ (((t.n : Int) < 0) ∨ ((t.n : Int) ≥ many)))))] [blk b_1 24 [.int .i64 t.kind, .int .i64 t.n, .slice A t.kids.length c], rd kTree A c t.kids, mp intKey Value.bool b (trues ks)]
            refine WC.condD rfl (fun hc_3 => ?_) (fun hc_3 => ?_)
            ·
              refine WC.seq ?_
              refine WC.region ?_
              refine WL.quiet (Qt.assign rfl) rfl rfl ?_
              refine WL.nil ?_
              refine WX.next ?_
              refine WC.ret ?_
              refine WX.block_ret ?_
              refine WX.pass_ret ?_
              refine WX.ret1 (.take 2 rfl (.nil)) rfl rfl ?_
              exact ⟨_, _, rfl, rfl, fun h => absurd h (by decide), fun hv => by have hs := hv.shape; omega⟩
            ·
              refine WC.cut (fun _ : Unit => [(1, .int .i64 many), (2, .map (some b)), (3, .pointer (some ⟨b_1, 0, none⟩)), (6, .int .i64 0), (54, .bool (decide (((t.kind : Int) = 0) ∧ ((mlook (trues ks) t.n).getD false = true))))]) (fun _ => [blk b_1 24 [.int .i64 t.kind, .int .i64 t.n, .slice A t.kids.length c], rd kTree A c t.kids, mp intKey Value.bool b (trues ks)]) (fun _ => True) ?_ ?_
              ·
                refine WC.region ?_
                refine WL.quiet (Qt.fieldAddrB tf24_0 rfl) rfl rfl ?_
                refine WL.quiet (Qt.loadB 0 rfl ta3 rfl rfl) rfl rfl ?_
                refine WL.quiet (Qt.eql rfl rfl) rfl rfl ?_
                refine WL.quiet (Qt.move rfl) rfl rfl ?_
                refine WL.splitD 58 rfl rfl (fun hg_8 => ?_) (fun hg_8 => ?_)
                ·
                  refine WL.quietG 3 true rfl 58 rfl rfl (Qt.move rfl) rfl ?_
                  refine WL.quietG 3 true rfl 58 rfl rfl (Qt.fieldAddrB tf24_1 rfl) rfl ?_
                  refine WL.quietG 3 true rfl 58 rfl rfl (Qt.loadB 0 rfl ta3 rfl rfl) rfl ?_
                  refine WL.quietG 3 true rfl 58 rfl rfl (Qt.lookup (z := false) 2 rfl Tryz.underlying54 Tryz.underlying3 ti4 rfl rfl) rfl ?_
                  refine WL.quiet (Qt.pickT rfl rfl) rfl rfl ?_
                  refine WL.quiet (Qt.assign rfl) rfl rfl ?_
                  refine WL.nil ?_
                  exact WX.cut () trivial ⟨rfl, rfl, rfl, rfl, (by rw [show decide (((t.kind : Int) = 0) ∧ ((mlook (trues ks) t.n).getD false = true)) = (mlook (trues ks) t.n).getD false from by first | (simp [hg_8]; done) | exact decide_eq_decide.2 (by omega) | exact decide_eq_true (by omega) | exact decide_eq_false (by omega) | (simp [hg_8] <;> omega)]; rfl), trivial⟩ (.take 0 rfl (.use 0 rfl (fun _ h => h) (.take 1 rfl (.nil))))
                ·
                  refine WL.skipG 3 true false rfl 58 rfl rfl rfl rfl ?_
                  refine WL.skipG 3 true false rfl 58 rfl rfl rfl rfl ?_
                  refine WL.skipG 3 true false rfl 58 rfl rfl rfl rfl ?_
                  refine WL.skipG 3 true false rfl 58 rfl rfl rfl rfl ?_
                  refine WL.quiet (Qt.pickF rfl rfl) rfl rfl ?_
                  refine WL.quiet (Qt.assign rfl) rfl rfl ?_
                  refine WL.nil ?_
                  exact WX.cut () trivial ⟨rfl, rfl, rfl, rfl, (by rw [show decide (((t.kind : Int) = 0) ∧ ((mlook (trues ks) t.n).getD false = true)) = false from by first | (simp [hg_8]; done) | exact decide_eq_decide.2 (by omega) | exact decide_eq_true (by omega) | exact decide_eq_false (by omega) | (simp [hg_8] <;> omega)]; rfl), trivial⟩ (.take 0 rfl (.use 0 rfl (fun _ h => h) (.take 1 rfl (.nil))))
              ·
                intro _ _
                show WC _ _ _ _ _ _ [(1, .int .i64 many), (2, .map (some b)), (3, .pointer (some ⟨b_1, 0, none⟩)), (6, .int .i64 0), (54, .bool (decide (((t.kind : Int) = 0) ∧ ((mlook (trues ks) t.n).getD false = true))))] [blk b_1 24 [.int .i64 t.kind, .int .i64 t.n, .slice A t.kids.length c], rd kTree A c t.kids, mp intKey Value.bool b (trues ks)]
                refine WC.condD rfl (fun hc_4 => ?_) (fun hc_4 => ?_)
                ·
                  refine WC.seq ?_
                  refine WC.region ?_
                  refine WL.quiet (Qt.assign rfl) rfl rfl ?_
                  refine WL.nil ?_
                  refine WX.next ?_
                  refine WC.ret ?_
                  refine WX.block_ret ?_
                  refine WX.pass_ret ?_
                  refine WX.ret1 (.take 2 rfl (.nil)) rfl rfl ?_
                  exact ⟨_, _, rfl, rfl, fun h => absurd h (by decide), fun hv => (hv.fresh (by omega) (look_yes hc_4.2)).elim⟩
                ·
                  refine WC.seq ?_
                  refine WC.region ?_
                  refine WL.quiet (Qt.fieldAddrB tf24_0 rfl) rfl rfl ?_
                  refine WL.quiet (Qt.loadB 0 rfl ta3 rfl rfl) rfl rfl ?_
                  refine WL.quiet (Qt.eql rfl rfl) rfl rfl ?_
                  refine WL.quiet (Qt.assign rfl) rfl rfl ?_
                  refine WL.nil ?_
                  refine WX.next ?_
                  refine WC.condD rfl (fun hc_5 => ?_) (fun hc_5 => ?_)
                  ·
                    refine WC.seq ?_
                    refine WC.region ?_
                    refine WL.quiet (Qt.move rfl) rfl rfl ?_
                    refine WL.quiet (Qt.fieldAddrB tf24_1 rfl) rfl rfl ?_
                    refine WL.quiet (Qt.loadB 0 rfl ta3 rfl rfl) rfl rfl ?_
                    refine WL.loud (.take 2 rfl (.nil)) (Ld.update Tryz.underlying54 Tryz.underlying3 rfl rfl rfl) trivial rfl ?_
                    rintro _ _ rfl
                    refine WL.nil ?_
                    refine WX.next ?_
                    refine WC.seq ?_
                    refine WC.region ?_
                    refine WL.quiet (Qt.assign rfl) rfl rfl ?_
                    refine WL.nil ?_
                    refine WX.next ?_
                    refine WC.ret ?_
                    refine WX.block_ret ?_
                    refine WX.pass_ret ?_
                    have hnew : t.n ∉ ks := look_no (fun h => hc_4 ⟨by omega, h⟩)
                    have hl0 := leaves_leaf t (by omega)
                    refine WX.ret1 (.take 0 rfl (.nil)) rfl rfl ?_
                    exact ⟨_, ks ++ [t.n], rfl, by rw [mset_new hnew], fun _ => ⟨Vld.leaf (by omega) (by omega) (by omega) (by omega) hnew, by rw [hl0]⟩, fun _ => rfl⟩
                  ·
                    refine WC.seq ?_
                    refine WC.region ?_
                    refine WL.quiet (Qt.fieldAddrB tf24_2 rfl) rfl rfl ?_
                    refine WL.quiet (Qt.loadB 0 rfl ta22 rfl rfl) rfl rfl ?_
                    refine WL.quiet (Qt.lenS Tryz.underlying22 rfl) rfl rfl ?_
                    refine WL.quiet (Qt.lss rfl rfl) rfl rfl ?_
                    refine WL.quiet (Qt.assign rfl) rfl rfl ?_
                    refine WL.nil ?_
                    refine WX.next ?_
                    refine WC.condD rfl (fun hc_6 => ?_) (fun hc_6 => ?_)
                    ·
                      refine WC.seq ?_
                      refine WC.region ?_
                      refine WL.quiet (Qt.assign rfl) rfl rfl ?_
                      refine WL.nil ?_
                      refine WX.next ?_
                      refine WC.ret ?_
                      refine WX.block_ret ?_
                      refine WX.pass_ret ?_
                      refine WX.ret1 (.take 2 rfl (.nil)) rfl rfl ?_
                      exact ⟨_, _, rfl, rfl, fun h => absurd h (by decide), fun hv => by have hs := hv.shape; omega⟩
                    ·
                      refine WC.seq ?_
                      refine WC.region ?_
                      refine WL.quiet (Qt.fieldAddrB tf24_2 rfl) rfl rfl ?_
                      refine WL.quiet (Qt.loadB 0 rfl ta22 rfl rfl) rfl rfl ?_
                      refine WL.quiet (Qt.makeFunc (vs := []) rfl rfl) rfl rfl ?_
                      refine WL.call (.use 1 rfl (fun _ h => h) (.take 0 rfl (.nil))) (Cl.func cb28 rfl) (containsTreeW t.kids _ _ 29 [.pointer (some ⟨b_1, 0, none⟩)] (blk b_1 24 [.int .i64 t.kind, .int .i64 t.n, .slice A t.kids.length c]) (fun x => decide (x.kind = t.kind)) cb29 (fun k hk A2 c2 => sameKindW t.kids[k] t A2 A c2 c b_1)) trivial rfl ?_
                      rintro _ _ ⟨rfl, rfl⟩
                      refine WL.quiet (Qt.assign rfl) rfl rfl ?_
                      refine WL.nil ?_
                      refine WX.next ?_
                      refine WC.cond rfl (fun hc_7 => ?_) (fun hc_7 => ?_)
                      ·
                        refine WC.seq ?_
                        refine WC.region ?_
                        refine WL.quiet (Qt.assign rfl) rfl rfl ?_
                        refine WL.nil ?_
                        refine WX.next ?_
                        refine WC.ret ?_
                        refine WX.block_ret ?_
                        refine WX.pass_ret ?_
                        refine WX.ret1 (.take 2 rfl (.nil)) rfl rfl ?_
                        exact ⟨_, _, rfl, rfl, fun h => absurd h (by decide), fun hv => by rw [hv.nokind (by omega)] at hc_7; cases hc_7⟩
                      ·
                        refine WC.skip ?_
                        refine WX.block_end ?_
                        refine WX.next ?_
                        refine WC.seq ?_
                        refine WC.seq ?_
                        refine WC.region ?_
                        refine WL.quiet (Qt.fieldAddrB tf24_2 rfl) rfl rfl ?_
                        refine WL.quiet (Qt.loadB 0 rfl ta22 rfl rfl) rfl rfl ?_
                        refine WL.quiet (Qt.lenS Tryz.underlying22 rfl) rfl rfl ?_
                        refine WL.quiet (Qt.move rfl) rfl rfl ?_
                        refine WL.nil ?_
                        refine WX.next ?_
                        refine WC.block ?_
                        refine WC.loop (fun w0 : Nat × (List Int) => [(1, .int .i64 many), (2, .map (some b)), (6, .int .i64 0), (82, .slice A t.kids.length c), (83, .int .i64 ((t.kids.length : Nat) : Int)), (84, .int .i64 ((w0.1 : Nat) : Int))]) (fun w0 => [blk b_1 24 [.int .i64 t.kind, .int .i64 t.n, .slice A t.kids.length c], rd kTree A c t.kids, mp intKey Value.bool b (trues w0.2)]) (fun w0 => w0.1 ≤ t.kids.length ∧ okL (t.kids.take w0.1) ∧ VL many ks (leavesL (t.kids.take w0.1)) ∧ w0.2 = ks ++ leavesL (t.kids.take w0.1)) (fun w0 => t.kids.length - w0.1) (0, ks) ⟨Nat.zero_le _, trivial, ⟨by simp [leavesL], by simp [leavesL], by simp [leavesL]⟩, by simp [leavesL]⟩ ⟨rfl, rfl, rfl, rfl, rfl, rfl, trivial⟩ (.take 0 rfl (.use 0 rfl (fun _ h => h) (.take 1 rfl (.nil)))) ?_
                        rintro ⟨k, ks1⟩ ⟨hk, hok, hvl, hks⟩
                        try dsimp only at hk hok hvl hks
                        show WC _ _ _ _ _ _ [(1, .int .i64 many), (2, .map (some b)), (6, .int .i64 0), (82, .slice A t.kids.length c), (83, .int .i64 ((t.kids.length : Nat) : Int)), (84, .int .i64 ((k : Nat) : Int))] [blk b_1 24 [.int .i64 t.kind, .int .i64 t.n, .slice A t.kids.length c], rd kTree A c t.kids, mp intKey Value.bool b (trues ks1)]
                        refine WC.seq ?_
                        refine WC.region ?_
                        refine WL.quiet (Qt.lss rfl rfl) rfl rfl ?_
                        refine WL.nil ?_
                        refine WX.next ?_
                        refine WC.seq ?_
                        refine WC.condD rfl (fun hc_8 => ?_) (fun hc_8 => ?_)
                        ·
                          refine WC.skip ?_
                          refine WX.next ?_
                          refine WC.seq ?_
                          refine WC.block ?_
                          refine WC.seq ?_
                          refine WC.region ?_
                          have hj_1 : k < t.kids.length := by omega
                          refine WL.learn 1 rfl (rd_at k hj_1 (vTree _)) ?_
                          rintro ⟨p_1, ⟨A_1, c_1⟩⟩ hA_1
                          refine WL.quiet (Qt.indexAddrE k hA_1 Tryz.underlying22 ti24 rfl rfl (by first | assumption | omega)) rfl rfl ?_
                          refine WL.quiet (Qt.loadCA (p := p_1.add (k * 3)) (o := 0) 0 rfl ta24 ti24 rfl rfl) rfl rfl ?_
                          refine WL.loud (.nil) (Ld.alloc ti24 rfl) trivial rfl ?_
                          rintro _ _ ⟨b_2, rfl, rfl⟩
                          refine WL.loud (.take 0 rfl (.nil)) (Ld.store ti24 rfl rfl rfl rfl rfl rfl) trivial rfl ?_
                          rintro _ _ rfl
                          refine WL.nil ?_
                          refine WX.next ?_
                          refine WC.seq ?_
                          refine WC.region ?_
                          refine WL.quiet (Qt.loadBA 0 rfl ta24 ti24 rfl rfl) rfl rfl ?_
                          refine WL.quiet (Qt.move rfl) rfl rfl ?_
                          refine WL.quiet (Qt.move rfl) rfl rfl ?_
                          refine WL.call (.use 2 rfl (fun _ h => h) (.take 5 rfl (.nil))) (Cl.func cb17 rfl) (ih (t.kids[k]) many ks1 _ _ b (by have := kid_size t k (by omega); omega)) trivial rfl ?_
                          rintro _ _ ⟨e_1, ks_1, rfl, rfl, he_1, hv_1⟩
                          refine WL.quiet (Qt.assign rfl) rfl rfl ?_
                          refine WL.nil ?_
                          refine WX.next ?_
                          refine WC.seq ?_
                          refine WC.region ?_
                          refine WL.quiet (Qt.move rfl) rfl rfl ?_
                          refine WL.quiet (Qt.neq rfl rfl) rfl rfl ?_
                          refine WL.nil ?_
                          refine WX.next ?_
                          refine WC.condD rfl (fun hc_9 => ?_) (fun hc_9 => ?_)
                          ·
                            refine WC.seq ?_
                            refine WC.region ?_
                            refine WL.quiet (Qt.move rfl) rfl rfl ?_
                            refine WL.quiet (Qt.assign rfl) rfl rfl ?_
                            refine WL.nil ?_
                            refine WX.next ?_
                            refine WC.ret ?_
                            refine WX.block_ret ?_
                            refine WX.pass_ret ?_
                            refine WX.pass_ret ?_
                            refine WX.block_ret ?_
                            refine WX.pass_ret ?_
                            refine WX.ret1 (.take 0 rfl (.nil)) rfl rfl ?_
                            exact ⟨_, _, rfl, rfl, fun h => absurd h (by omega), fun hv => hv_1 (by rw [hks]; exact hv.kid (by omega) (by omega))⟩
                          ·
                            refine WC.skip ?_
                            refine WX.block_end ?_
                            refine WX.next ?_
                            refine WC.region ?_
                            refine WL.quiet (Qt.add rfl rfl (by omega)) rfl rfl ?_
                            refine WL.quiet (Qt.move rfl) rfl rfl ?_
                            refine WL.nil ?_
                            have hkid := he_1 (by omega)
                            exact WX.back (k + 1, ks_1) ⟨by omega, okL_take (by omega) hok hkid.1.1, by rw [leavesL_take _ _ (by omega), VL_append, ← hks]; exact ⟨hvl, hkid.1.2⟩, by rw [leavesL_take _ _ (by omega), hkid.2, hks, List.append_assoc]⟩ (by first | omega | (dsimp only; omega) | (simp; omega)) ⟨rfl, rfl, rfl, rfl, rfl, rfl, trivial⟩ (.take 4 rfl (.use 4 rfl (fun _ h => h) (.take 0 rfl (.nil))))
                        ·
                          refine WC.exit ?_
                          refine WX.pass_exit ?_
                          refine WX.pass_exit ?_
                          refine WX.block_exit ?_
                          refine WX.next ?_
                          refine WC.seq ?_
                          refine WC.region ?_
                          refine WL.quiet (Qt.assign rfl) rfl rfl ?_
                          refine WL.nil ?_
                          refine WX.next ?_
                          refine WC.ret ?_
                          have htk : t.kids.take k = t.kids := List.take_of_length_le (by omega)
                          rw [htk] at hok hvl hks
                          refine WX.ret1 (.take 2 rfl (.nil)) rfl rfl ?_
                          exact ⟨_, _, rfl, rfl, fun _ => ⟨Vld.of (by omega) (by omega) (by omega) hc_7 hok hvl, by rw [hks, leaves_kids t (by omega)]⟩, fun _ => rfl⟩
theorem checkW (t : PT) (many : Int) (ks : List Int) (A : Option Addr) (c b : Nat)  : Spec μ Tryz.prog 17 #[.agg [.int .i64 t.kind, .int .i64 t.n, .slice A t.kids.length c].toArray, .int .i64 many, .map (some b)] [rd kTree A c t.kids, mp intKey Value.bool b (trues ks)] fun v Δ => ∃ (e : Int) (ks1 : List Int), v = .int .i64 e ∧ Δ = [mp intKey Value.bool b (trues ks1)] ∧ (e = 0 → Vld many ks t ∧ ks1 = ks ++ t.leaves) ∧ (Vld many ks t → e = 0) := checkW_ih _ t many ks A c b (Nat.lt_succ_self _) 

end Go.Proofs.YtkhmbhdlfpalkaaGreatDoor.Sep

/- A walk, printed by gen.py out of hints. -/
namespace Go.Proofs.YtkhmbhdlfpalkaaGreatDoor.Sep
open Go
variable {μ : Prop}
theorem treeCheckW (t : PT) (many : Int) (A : Option Addr) (c : Nat)  : Spec μ Tryz.prog 8 #[.agg [.int .i64 t.kind, .int .i64 t.n, .slice A t.kids.length c].toArray, .int .i64 many] [rd kTree A c t.kids] fun v Δ => ∃ e : Int, v = .int .i64 e ∧ Δ = [] ∧ (e = 0 ↔ Vld many [] t ∧ (t.leaves.length : Int) = max 0 many) := by
  refine Spec.of_body (n := 22) Tryz.func8 rfl rfl rfl fun w0 S0 O0 => ?_
  show WC _ _ _ _ _ _ [(0, .agg [.int .i64 t.kind, .int .i64 t.n, .slice A t.kids.length c].toArray), (1, .int .i64 many)] [rd kTree A c t.kids]
  refine WC.seq ?_
  refine WC.region ?_
  refine WL.loud (.nil) (Ld.box rfl rfl) trivial rfl ?_
  rintro _ _ ⟨b_1, rfl, rfl⟩
  refine WL.quiet (Qt.assign rfl) rfl rfl ?_
  refine WL.nil ?_
  refine WX.next ?_
  refine WC.seq ?_
  refine WC.region ?_
  refine WL.loud (.nil) (Ld.makeMap (E := intKey) (V := Value.bool)) trivial rfl ?_
  rintro _ _ ⟨b_2, rfl, rfl⟩
  refine WL.quiet (Qt.assign rfl) rfl rfl ?_
  refine WL.nil ?_
  refine WX.next ?_
  refine WC.seq ?_
  refine WC.region ?_
  refine WL.quiet (Qt.loadBA 1 rfl ta24 ti24 rfl rfl) rfl rfl ?_
  refine WL.quiet (Qt.move rfl) rfl rfl ?_
  refine WL.quiet (Qt.move rfl) rfl rfl ?_
  refine WL.call (.use 2 rfl (fun _ h => h) (.take 0 rfl (.nil))) (Cl.func cb17 rfl) (checkW t many [] _ _ b_2) trivial rfl ?_
  rintro _ _ ⟨e_1, ks_1, rfl, rfl, he_1, hv_1⟩
  refine WL.quiet (Qt.assign rfl) rfl rfl ?_
  refine WL.nil ?_
  refine WX.next ?_
  refine WC.seq ?_
  refine WC.cut (fun _ : Unit => [(4, .int .i64 0), (6, .int .i64 e_1), (20, .bool (decide (((e_1 : Int) = 0) ∧ ((((trues ks_1).length : Nat) : Int) ≠ (if many > 0 then many else 0)))))]) (fun _ => [mp intKey Value.bool b_2 (trues ks_1), blk b_1 24 [.int .i64 t.kind, .int .i64 t.n, .slice A t.kids.length c], rd kTree A c t.kids]) (fun _ => True) ?_ ?_
  ·
    refine WC.region ?_
    refine WL.quiet (Qt.move rfl) rfl rfl ?_
    refine WL.quiet (Qt.eql rfl rfl) rfl rfl ?_
    refine WL.quiet (Qt.move rfl) rfl rfl ?_
    refine WL.splitD 14 rfl rfl (fun hg_1 => ?_) (fun hg_1 => ?_)
    ·
      refine WL.quietG 2 true rfl 14 rfl rfl (Qt.move rfl) rfl ?_
      refine WL.quietG 2 true rfl 14 rfl rfl (Qt.lenM 0 rfl Tryz.underlying54 rfl) rfl ?_
      refine WL.quietG 2 true rfl 14 rfl rfl (Qt.move rfl) rfl ?_
      refine WL.quietG 2 true rfl 14 rfl rfl (Qt.max2 rfl rfl) rfl ?_
      refine WL.quietG 2 true rfl 14 rfl rfl (Qt.neq rfl rfl) rfl ?_
      refine WL.quiet (Qt.pickT rfl rfl) rfl rfl ?_
      refine WL.nil ?_
      exact WX.cut () trivial ⟨rfl, rfl, (by rw [show decide (((e_1 : Int) = 0) ∧ ((((trues ks_1).length : Nat) : Int) ≠ (if many > 0 then many else 0))) = (decide ((((trues ks_1).length : Nat) : Int) ≠ (if many > 0 then many else 0))) from by first | (simp [hg_1]; done) | exact decide_eq_decide.2 (by omega) | exact decide_eq_true (by omega) | exact decide_eq_false (by omega) | (simp [hg_1] <;> omega)]; rfl), trivial⟩ (.take 0 rfl (.take 0 rfl (.use 0 rfl (fun _ h => h) (.nil))))
    ·
      refine WL.skipG 2 true false rfl 14 rfl rfl rfl rfl ?_
      refine WL.skipG 2 true false rfl 14 rfl rfl rfl rfl ?_
      refine WL.skipG 2 true false rfl 14 rfl rfl rfl rfl ?_
      refine WL.skipG 2 true false rfl 14 rfl rfl rfl rfl ?_
      refine WL.skipG 2 true false rfl 14 rfl rfl rfl rfl ?_
      refine WL.quiet (Qt.pickF rfl rfl) rfl rfl ?_
      refine WL.nil ?_
      exact WX.cut () trivial ⟨rfl, rfl, (by rw [show decide (((e_1 : Int) = 0) ∧ ((((trues ks_1).length : Nat) : Int) ≠ (if many > 0 then many else 0))) = false from by first | (simp [hg_1]; done) | exact decide_eq_decide.2 (by omega) | exact decide_eq_true (by omega) | exact decide_eq_false (by omega) | (simp [hg_1] <;> omega)]; rfl), trivial⟩ (.take 0 rfl (.take 0 rfl (.use 0 rfl (fun _ h => h) (.nil))))
  ·
    intro _ _
    show WC _ _ _ _ _ _ [(4, .int .i64 0), (6, .int .i64 e_1), (20, .bool (decide (((e_1 : Int) = 0) ∧ ((((trues ks_1).length : Nat) : Int) ≠ (if many > 0 then many else 0)))))] [mp intKey Value.bool b_2 (trues ks_1), blk b_1 24 [.int .i64 t.kind, .int .i64 t.n, .slice A t.kids.length c], rd kTree A c t.kids]
    refine WC.condD rfl (fun hc_1 => ?_) (fun hc_1 => ?_)
    ·
      refine WC.region ?_
      refine WL.quiet (Qt.assign rfl) rfl rfl ?_
      refine WL.nil ?_
      refine WX.next ?_
      refine WC.seq ?_
      refine WC.region ?_
      refine WL.quiet (Qt.move rfl) rfl rfl ?_
      refine WL.quiet (Qt.assign rfl) rfl rfl ?_
      refine WL.nil ?_
      refine WX.next ?_
      refine WC.ret ?_
      rw [trues_length] at hc_1
      refine WX.ret1 (.nil) rfl rfl ?_
      exact ⟨_, rfl, rfl, check_iff4 he_1 hc_1⟩
    ·
      refine WC.skip ?_
      refine WX.next ?_
      refine WC.seq ?_
      refine WC.region ?_
      refine WL.quiet (Qt.move rfl) rfl rfl ?_
      refine WL.quiet (Qt.assign rfl) rfl rfl ?_
      refine WL.nil ?_
      refine WX.next ?_
      refine WC.ret ?_
      rw [trues_length] at hc_1
      refine WX.ret1 (.nil) rfl rfl ?_
      exact ⟨_, rfl, rfl, check_iff he_1 hv_1 hc_1⟩

end Go.Proofs.YtkhmbhdlfpalkaaGreatDoor.Sep

/- A walk, printed by gen.py out of hints. -/
namespace Go.Proofs.YtkhmbhdlfpalkaaGreatDoor.Sep
open Go
variable {μ : Prop}
theorem cloneW (cs : List Contact) (A : Option Addr) (c : Nat) (hA0 : A = none → cs = []) (hlen : cs.length ≤ 100000) : Spec μ Tryz.prog 18 #[.slice A cs.length c] [rd kContact A c cs] fun v Δ => ∃ A1 c1, v = .slice A1 cs.length c1 ∧ Δ = [row kContact 39 A1 c1 cs] := by
  refine Spec.of_body (n := 8) Tryz.func18 rfl rfl rfl fun w0 S0 O0 => ?_
  show WC _ _ _ _ _ _ [(0, .slice A cs.length c)] [rd kContact A c cs]
  refine WC.learn (Z := Unit) (Δ := fun _ => []) (φ := fun _ => cs.length ≤ c ∧ c ≤ 9223372036854775807) 0 rfl (fun S w h => ⟨(), rd_bounds h, nofacts⟩) ?_
  rintro _ ⟨hb_1, hb_2⟩
  refine WC.seq ?_
  refine WC.region ?_
  refine WL.quiet (Qt.assign rfl) rfl rfl ?_
  refine WL.nil ?_
  refine WX.next ?_
  refine WC.seq ?_
  refine WC.seq ?_
  refine WC.region ?_
  refine WL.quiet (Qt.move rfl) rfl rfl ?_
  refine WL.quiet (Qt.nilEq Tryz.underlying35 rfl) rfl rfl ?_
  refine WL.nil ?_
  refine WX.next ?_
  refine WC.cond rfl (fun hc_1 => ?_) (fun hc_1 => ?_)
  ·
    refine WC.seq ?_
    refine WC.region ?_
    refine WL.quiet (Qt.assign rfl) rfl rfl ?_
    refine WL.nil ?_
    refine WX.next ?_
    refine WC.ret ?_
    refine WX.pass_ret ?_
    have hcs : cs = [] := hA0 (by simpa using hc_1)
    subst hcs
    refine WX.turn (.nil) (nil_row (e := kContact) (t := 39)) ?_
    rintro _ rfl
    refine WX.ret1 (.take 0 rfl (.nil)) rfl rfl ?_
    exact ⟨_, _, rfl, rfl⟩
  ·
    refine WC.skip ?_
    refine WX.next ?_
    refine WC.seq ?_
    refine WC.region ?_
    refine WL.loud (.nil) (Ld.buildEmpty Tryz.underlying35 ti39) trivial rfl ?_
    rintro _ _ ⟨b_1, rfl, rfl⟩
    refine WL.turn (.take 0 rfl (.nil)) (blk_row (e := kContact) (U := []) [] (fun F hF => nomatch hF) (fun S w h => Reps.nil _ _ _) (by simp)) ?_
    rintro _ rfl
    refine WL.quiet (Qt.move rfl) rfl rfl ?_
    refine WL.loud (.take 0 rfl (.use 0 rfl (fun _ h => h) (.nil))) (Ld.appendRd (e := kContact) (xs := []) (ys := cs) Tryz.underlying35 ti39 rfl (by decide) (by decide) rfl rfl (by first | omega | (simp; omega))) trivial rfl ?_
    rintro _ _ ⟨A_1, c_1, rfl, rfl⟩
    refine WL.quiet (Qt.assign rfl) rfl rfl ?_
    refine WL.nil ?_
    refine WX.next ?_
    refine WC.ret ?_
    refine WX.ret1 (.take 0 rfl (.nil)) rfl rfl ?_
    exact ⟨_, _, by rw [List.nil_append], by rw [List.nil_append]⟩

end Go.Proofs.YtkhmbhdlfpalkaaGreatDoor.Sep

/- A walk, printed by gen.py out of hints. -/
namespace Go.Proofs.YtkhmbhdlfpalkaaGreatDoor.Sep
open Go
variable {μ : Prop}
theorem layW_ih (m : Nat) : ∀ (t : PT) (f to : ByteArray) (n : Nat) (cs : List Contact) (cur : List Value) (A : Option Addr) (q b c bo bl bn : Nat), SizeOf.sizeOf t < m → t.ok → (∀ x, x ∈ t.leaves → 0 ≤ x ∧ x < (cs.length : Int)) → (n + t.leaves.length ≤ 99) → Spec μ Tryz.prog 19 #[.agg [.int .i64 t.kind, .int .i64 t.n, .slice A t.kids.length q].toArray, .agg [.string f, .string to].toArray, .pointer (some ⟨bo, 0, none⟩), .pointer (some ⟨bl, 0, none⟩), .pointer (some ⟨bn, 0, none⟩)] [rd kTree A q t.kids, blk bo 35 [.slice (some ⟨b, 0, none⟩) cs.length c], blk bl 57 [.func (.func 19) #[] [.pointer (some ⟨bo, 0, none⟩), .pointer (some ⟨bl, 0, none⟩), .pointer (some ⟨bn, 0, none⟩)].toArray], blk bn 3 [.int .i64 ((n : Nat) : Int)], rowL kContact 39 b c cs cur] fun v Δ => ∃ cur1, v = .tuple #[] ∧ Δ = [blk bo 35 [.slice (some ⟨b, 0, none⟩) cs.length c], blk bl 57 [.func (.func 19) #[] [.pointer (some ⟨bo, 0, none⟩), .pointer (some ⟨bl, 0, none⟩), .pointer (some ⟨bn, 0, none⟩)].toArray], blk bn 3 [.int .i64 (((layT t f to (n, cs)).1 : Nat) : Int)], rowL kContact 39 b c (layT t f to (n, cs)).2 cur1] := by
  induction m with
  | zero => exact fun t f to n cs cur A q b c bo bl bn h => absurd h (Nat.not_lt_zero _)
  | succ m ih =>
  intro t f to n cs cur A q b c bo bl bn hsz hok hr hn
  have ih' : ∀ (t' : PT) (f to : ByteArray) (n' : Nat) (cs' : List Contact) (cur' : List Value), cs'.length = cs.length → ∀ (A : Option Addr) (q : Nat), SizeOf.sizeOf t' < m → t'.ok → (∀ x, x ∈ t'.leaves → 0 ≤ x ∧ x < (cs.length : Int)) → n' + t'.leaves.length ≤ 99 → Spec μ Tryz.prog 19 #[.agg #[.int .i64 t'.kind, .int .i64 t'.n, .slice A t'.kids.length q], .agg #[.string f, .string to], .pointer (some ⟨bo, 0, none⟩), .pointer (some ⟨bl, 0, none⟩), .pointer (some ⟨bn, 0, none⟩)] [rd kTree A q t'.kids, blk bo 35 [.slice (some ⟨b, 0, none⟩) cs.length c], blk bl 57 [.func (.func 19) #[] [.pointer (some ⟨bo, 0, none⟩), .pointer (some ⟨bl, 0, none⟩), .pointer (some ⟨bn, 0, none⟩)].toArray], blk bn 3 [.int .i64 ((n' : Nat) : Int)], rowL kContact 39 b c cs' cur'] fun v Δ => ∃ cur1, v = .tuple #[] ∧ Δ = [blk bo 35 [.slice (some ⟨b, 0, none⟩) cs.length c], blk bl 57 [.func (.func 19) #[] [.pointer (some ⟨bo, 0, none⟩), .pointer (some ⟨bl, 0, none⟩), .pointer (some ⟨bn, 0, none⟩)].toArray], blk bn 3 [.int .i64 (((layT t' f to (n', cs')).1 : Nat) : Int)], rowL kContact 39 b c (layT t' f to (n', cs')).2 cur1] := by
    intro t' f to n' cs' cur' hcl A q hs ho hr hn
    have := ih t' f to n' cs' cur' A q b c bo bl bn hs ho (by rw [hcl]; exact hr) hn
    rwa [hcl] at this
  refine Spec.of_body (n := 81) Tryz.func19 rfl rfl rfl fun w0 S0 O0 => ?_
  show WC _ _ _ _ _ _ [(0, .agg [.int .i64 t.kind, .int .i64 t.n, .slice A t.kids.length q].toArray), (1, .agg [.string f, .string to].toArray), (2, .pointer (some ⟨bo, 0, none⟩)), (3, .pointer (some ⟨bl, 0, none⟩)), (4, .pointer (some ⟨bn, 0, none⟩))] [rd kTree A q t.kids, blk bo 35 [.slice (some ⟨b, 0, none⟩) cs.length c], blk bl 57 [.func (.func 19) #[] [.pointer (some ⟨bo, 0, none⟩), .pointer (some ⟨bl, 0, none⟩), .pointer (some ⟨bn, 0, none⟩)].toArray], blk bn 3 [.int .i64 ((n : Nat) : Int)], rowL kContact 39 b c cs cur]
  refine WC.learn (Z := Unit) (Δ := fun _ => []) (φ := fun _ => t.kids.length ≤ q ∧ q ≤ 9223372036854775807) 0 rfl (fun S w h => ⟨(), rd_bounds h, nofacts⟩) ?_
  rintro _ ⟨hb_1, hb_2⟩
  refine WC.learn (Z := Unit) (Δ := fun _ => []) (φ := fun _ => cs.length ≤ c ∧ c ≤ 9223372036854775807) 4 rfl (fun S w h => ⟨(), rowL_bounds h, nofacts⟩) ?_
  rintro _ ⟨hb_3, hb_4⟩
  refine WC.seq ?_
  refine WC.region ?_
  refine WL.loud (.nil) (Ld.box rfl rfl) trivial rfl ?_
  rintro _ _ ⟨b_1, rfl, rfl⟩
  refine WL.loud (.nil) (Ld.box rfl rfl) trivial rfl ?_
  rintro _ _ ⟨b_2, rfl, rfl⟩
  refine WL.nil ?_
  refine WX.next ?_
  refine WC.seq ?_
  refine WC.region ?_
  refine WL.quiet (Qt.fieldAddrB tf24_0 rfl) rfl rfl ?_
  refine WL.quiet (Qt.loadB 1 rfl ta3 rfl rfl) rfl rfl ?_
  refine WL.nil ?_
  refine WX.next ?_
  refine WC.block ?_
  refine WC.seq ?_
  refine WC.region ?_
  refine WL.quiet (Qt.eql rfl rfl) rfl rfl ?_
  refine WL.quiet (Qt.assign rfl) rfl rfl ?_
  refine WL.nil ?_
  refine WX.next ?_
  refine WC.condD rfl (fun hc_1 => ?_) (fun hc_1 => ?_)
  ·
    obtain ⟨hn0, hn1⟩ := hr t.n (by rw [leaves_leaf t (by omega)]; exact List.mem_singleton.2 rfl)
    obtain ⟨j, hje⟩ := Int.eq_ofNat_of_zero_le hn0
    rw [hje]
    have hj0 : j < cs.length := by omega
    have hj_1 : j < cs.length := by omega
    refine WC.learn 6 rfl (rowL_at j hj_1 (vContact _)) ?_
    rintro _ hel_1
    refine WC.draw (Γq := [blk b_2 59 [.string f, .string to], blk b_1 24 [.int .i64 t.kind, .int .i64 ((j : Nat) : Int), .slice A t.kids.length q], rd kTree A q t.kids, blk bo 35 [.slice (some ⟨b, 0, none⟩) cs.length c], blk bl 57 [.func (.func 19) #[] [.pointer (some ⟨bo, 0, none⟩), .pointer (some ⟨bl, 0, none⟩), .pointer (some ⟨bn, 0, none⟩)].toArray], blk bn 3 [.int .i64 ((n : Nat) : Int)]]) [0, 1, 2, 3, 4, 5, 6, 7, 8, 9, 10, 11, 12] mixed ?_
    refine WA.take (by kernel_rfl) 0 (by decide) rfl (by kernel_rfl) (by kernel_rfl) (by kernel_rfl) (Calm.inBlock (calm_FQ _ _)) (Qt.loadB 3 rfl ta35 rfl rfl) trivial rfl (.take 0 rfl (.take 0 rfl (.use 0 rfl (fun _ h => h) (.take 1 rfl (.take 1 rfl (.take 1 rfl (.nil))))))) ?_
    refine WA.take (by kernel_rfl) 1 (by decide) rfl (by kernel_rfl) (by kernel_rfl) (by kernel_rfl) (Calm.inBlock (calm_FQ _ _)) (Qt.fieldAddrB tf24_1 rfl) trivial rfl (.take 0 rfl (.take 0 rfl (.use 0 rfl (fun _ h => h) (.take 1 rfl (.take 1 rfl (.take 1 rfl (.nil))))))) ?_
    refine WA.take (by kernel_rfl) 2 (by decide) rfl (by kernel_rfl) (by kernel_rfl) (by kernel_rfl) (Calm.inBlock (calm_FQ _ _)) (Qt.loadB 1 rfl ta3 rfl rfl) trivial rfl (.take 0 rfl (.take 0 rfl (.use 0 rfl (fun _ h => h) (.take 1 rfl (.take 1 rfl (.take 1 rfl (.nil))))))) ?_
    refine WA.take (by kernel_rfl) 3 (by decide) rfl (by kernel_rfl) (by kernel_rfl) (by kernel_rfl) (Calm.inBlock (calm_FQ _ _)) (Qt.loadB 3 rfl ta35 rfl rfl) trivial rfl (.take 0 rfl (.take 0 rfl (.use 0 rfl (fun _ h => h) (.take 1 rfl (.take 1 rfl (.take 1 rfl (.nil))))))) ?_
    refine WA.take (by kernel_rfl) 4 (by decide) rfl (by kernel_rfl) (by kernel_rfl) (by kernel_rfl) (Calm.inBlock (calm_FQ _ _)) (Qt.fieldAddrB tf24_1 rfl) trivial rfl (.take 0 rfl (.take 0 rfl (.use 0 rfl (fun _ h => h) (.take 1 rfl (.take 1 rfl (.take 1 rfl (.nil))))))) ?_
    refine WA.take (by kernel_rfl) 5 (by decide) rfl (by kernel_rfl) (by kernel_rfl) (by kernel_rfl) (Calm.inBlock (calm_FQ _ _)) (Qt.loadB 1 rfl ta3 rfl rfl) trivial rfl (.take 0 rfl (.take 0 rfl (.use 0 rfl (fun _ h => h) (.take 1 rfl (.take 1 rfl (.take 1 rfl (.nil))))))) ?_
    refine WA.take (by kernel_rfl) 6 (by decide) rfl (by kernel_rfl) (by kernel_rfl) (by kernel_rfl) (Calm.inBlock (calm_FQ _ _)) (Qt.fieldAddrB tf59_0 rfl) trivial rfl (.take 0 rfl (.take 0 rfl (.use 0 rfl (fun _ h => h) (.take 1 rfl (.take 1 rfl (.take 1 rfl (.nil))))))) ?_
    refine WA.take (by kernel_rfl) 7 (by decide) rfl (by kernel_rfl) (by kernel_rfl) (by kernel_rfl) (Calm.inBlock (calm_FQ _ _)) (Qt.loadB 0 rfl ta9 rfl rfl) trivial rfl (.take 0 rfl (.take 0 rfl (.use 0 rfl (fun _ h => h) (.take 1 rfl (.take 1 rfl (.take 1 rfl (.nil))))))) ?_
    refine WA.take (by kernel_rfl) 8 (by decide) rfl (by kernel_rfl) (by kernel_rfl) (by kernel_rfl) (Calm.inBlock (calm_FQ _ _)) (Qt.fieldAddrB tf59_1 rfl) trivial rfl (.take 0 rfl (.take 0 rfl (.use 0 rfl (fun _ h => h) (.take 1 rfl (.take 1 rfl (.take 1 rfl (.nil))))))) ?_
    refine WA.take (by kernel_rfl) 9 (by decide) rfl (by kernel_rfl) (by kernel_rfl) (by kernel_rfl) (Calm.inBlock (calm_FQ _ _)) (Qt.loadB 0 rfl ta9 rfl rfl) trivial rfl (.take 0 rfl (.take 0 rfl (.use 0 rfl (fun _ h => h) (.take 1 rfl (.take 1 rfl (.take 1 rfl (.nil))))))) ?_
    refine WA.one 10 (by kernel_rfl) ?_
    refine WO.quiet rfl (Qt.indexAddrB j Tryz.underlying35 ti39 rfl rfl (by first | assumption | omega)) trivial rfl (.take 0 rfl (.take 0 rfl (.use 0 rfl (fun _ h => h) (.take 1 rfl (.take 1 rfl (.take 1 rfl (.nil))))))) ?_
    refine WA.take (by kernel_rfl) 11 (by decide) rfl (by kernel_rfl) (by kernel_rfl) (by kernel_rfl) (Calm.inBlock (calm_FQ _ _)) (Qt.fieldAddrB tf39_2 rfl) trivial rfl (.take 0 rfl (.take 0 rfl (.use 0 rfl (fun _ h => h) (.take 1 rfl (.take 1 rfl (.take 1 rfl (.nil))))))) ?_
    refine WA.one 12 (by kernel_rfl) ?_
    refine WO.loud rfl (.take 6 rfl (.nil)) (Ld.storeR (j := j) (o := 3) (Contact.mk (cs[j].kind) (cs[j].sp) (cs[j].n) f (cs[j].to)) (by first | assumption | omega | (simp; omega)) hel_1 ti9 rfl rfl rfl rfl rfl rfl (fun S w h => rfl)) trivial rfl (by rintro _ _ ⟨cur_1, hel_2, hoth_1, rfl⟩; exact ⟨_, (.take 1 rfl (.take 1 rfl (.use 1 rfl (fun _ h => h) (.take 2 rfl (.take 2 rfl (.take 2 rfl (.nil)))))))⟩) ?_
    rintro _ _ ⟨cur_1, hel_2, hoth_1, rfl⟩
    refine WA.phase (K' := [0, 1, 2, 3, 4, 5, 6, 7, 8, 9, 10, 11, 12, 13, 14, 15]) (Γq' := [blk b_2 59 [.string f, .string to], blk b_1 24 [.int .i64 t.kind, .int .i64 ((j : Nat) : Int), .slice A t.kids.length q], rd kTree A q t.kids, blk bo 35 [.slice (some ⟨b, 0, none⟩) cs.length c], blk bl 57 [.func (.func 19) #[] [.pointer (some ⟨bo, 0, none⟩), .pointer (some ⟨bl, 0, none⟩), .pointer (some ⟨bn, 0, none⟩)].toArray], blk bn 3 [.int .i64 ((n : Nat) : Int)]]) (by kernel_rfl) ?_
    refine WA.one 13 (by kernel_rfl) ?_
    refine WO.quiet rfl (Qt.indexAddrB j Tryz.underlying35 ti39 rfl rfl (by first | assumption | omega)) trivial rfl (.take 1 rfl (.take 1 rfl (.use 1 rfl (fun _ h => h) (.take 2 rfl (.take 2 rfl (.take 2 rfl (.nil))))))) ?_
    refine WA.take (by kernel_rfl) 14 (by decide) rfl (by kernel_rfl) (by kernel_rfl) (by kernel_rfl) (Calm.inBlock (calm_FQ _ _)) (Qt.fieldAddrB tf39_3 rfl) trivial rfl (.take 1 rfl (.take 1 rfl (.use 1 rfl (fun _ h => h) (.take 2 rfl (.take 2 rfl (.take 2 rfl (.nil))))))) ?_
    refine WA.one 15 (by kernel_rfl) ?_
    refine WO.loud rfl (.take 0 rfl (.nil)) (Ld.storeR (j := j) (o := 4) (Contact.mk (cs[j].kind) (cs[j].sp) (cs[j].n) f to) (by first | assumption | omega | (simp; omega)) hel_2 ti9 rfl rfl rfl rfl rfl rfl (fun S w h => rfl)) trivial rfl (by rintro _ _ ⟨cur_2, hel_3, hoth_2, rfl⟩; exact ⟨_, (.take 1 rfl (.take 1 rfl (.use 1 rfl (fun _ h => h) (.take 2 rfl (.take 2 rfl (.take 2 rfl (.nil)))))))⟩) ?_
    rintro _ _ ⟨cur_2, hel_3, hoth_2, rfl⟩
    refine WA.done (by kernel_rfl) ?_
    refine WX.block_end ?_
    rw [layT_leaf t f to (n, cs) (by omega), show t.n.toNat = j from by omega, setEnds_at hj0]
    refine WX.end0 (.take 4 rfl (.take 4 rfl (.take 4 rfl (.take 0 rfl (.nil))))) rfl ?_
    exact ⟨cur_2, rfl, by simp only [List.set_set]⟩
  ·
    refine WC.seq ?_
    refine WC.region ?_
    refine WL.quiet (Qt.eql rfl rfl) rfl rfl ?_
    refine WL.quiet (Qt.assign rfl) rfl rfl ?_
    refine WL.nil ?_
    refine WX.next ?_
    refine WC.condD rfl (fun hc_2 => ?_) (fun hc_2 => ?_)
    ·
      refine WC.seq ?_
      refine WC.region ?_
      refine WL.quiet (Qt.fieldAddrB tf24_2 rfl) rfl rfl ?_
      refine WL.quiet (Qt.loadB 1 rfl ta22 rfl rfl) rfl rfl ?_
      refine WL.quiet (Qt.lenS Tryz.underlying22 rfl) rfl rfl ?_
      refine WL.quiet (Qt.move rfl) rfl rfl ?_
      refine WL.nil ?_
      refine WX.next ?_
      refine WC.block ?_
      refine WC.loop (fun w0 : Nat × Nat × (List Contact) × (List Value) => [(3, .pointer (some ⟨bl, 0, none⟩)), (6, .pointer (some ⟨b_2, 0, none⟩)), (70, .slice A t.kids.length q), (71, .int .i64 ((t.kids.length : Nat) : Int)), (72, .int .i64 ((w0.1 : Nat) : Int))]) (fun w0 => [blk b_2 59 [.string f, .string to], blk b_1 24 [.int .i64 t.kind, .int .i64 t.n, .slice A t.kids.length q], rd kTree A q t.kids, blk bo 35 [.slice (some ⟨b, 0, none⟩) cs.length c], blk bl 57 [.func (.func 19) #[] [.pointer (some ⟨bo, 0, none⟩), .pointer (some ⟨bl, 0, none⟩), .pointer (some ⟨bn, 0, none⟩)].toArray], blk bn 3 [.int .i64 ((w0.2.1 : Nat) : Int)], rowL kContact 39 b c w0.2.2.1 w0.2.2.2]) (fun w0 => w0.1 ≤ t.kids.length ∧ (w0.2.1, w0.2.2.1) = layP (t.kids.take w0.1) f to (n, cs)) (fun w0 => t.kids.length - w0.1) (0, n, cs, cur) ⟨Nat.zero_le _, by rw [List.take_zero, layP]⟩ ⟨rfl, rfl, rfl, rfl, rfl, trivial⟩ (.take 0 rfl (.take 0 rfl (.use 0 rfl (fun _ h => h) (.take 1 rfl (.take 1 rfl (.take 1 rfl (.take 1 rfl (.nil)))))))) ?_
      rintro ⟨k, m, cs2, cu⟩ ⟨hk, hst⟩
      try dsimp only at hk hst
      have hcl : cs2.length = cs.length := by have := layP_len (t.kids.take k) f to (n, cs); rw [← hst] at this; exact this
      show WC _ _ _ _ _ _ [(3, .pointer (some ⟨bl, 0, none⟩)), (6, .pointer (some ⟨b_2, 0, none⟩)), (70, .slice A t.kids.length q), (71, .int .i64 ((t.kids.length : Nat) : Int)), (72, .int .i64 ((k : Nat) : Int))] [blk b_2 59 [.string f, .string to], blk b_1 24 [.int .i64 t.kind, .int .i64 t.n, .slice A t.kids.length q], rd kTree A q t.kids, blk bo 35 [.slice (some ⟨b, 0, none⟩) cs.length c], blk bl 57 [.func (.func 19) #[] [.pointer (some ⟨bo, 0, none⟩), .pointer (some ⟨bl, 0, none⟩), .pointer (some ⟨bn, 0, none⟩)].toArray], blk bn 3 [.int .i64 ((m : Nat) : Int)], rowL kContact 39 b c cs2 cu]
      refine WC.seq ?_
      refine WC.region ?_
      refine WL.quiet (Qt.lss rfl rfl) rfl rfl ?_
      refine WL.nil ?_
      refine WX.next ?_
      refine WC.seq ?_
      refine WC.condD rfl (fun hc_3 => ?_) (fun hc_3 => ?_)
      ·
        refine WC.skip ?_
        refine WX.next ?_
        refine WC.seq ?_
        refine WC.block ?_
        refine WC.seq ?_
        refine WC.region ?_
        have hj_2 : k < t.kids.length := by omega
        refine WL.learn 2 rfl (rd_at k hj_2 (vTree _)) ?_
        rintro ⟨p_1, ⟨A_1, c_1⟩⟩ hA_1
        refine WL.quiet (Qt.indexAddrE k hA_1 Tryz.underlying22 ti24 rfl rfl (by first | assumption | omega)) rfl rfl ?_
        refine WL.quiet (Qt.loadCA (p := p_1.add (k * 3)) (o := 0) 0 rfl ta24 ti24 rfl rfl) rfl rfl ?_
        refine WL.loud (.nil) (Ld.alloc ti24 rfl) trivial rfl ?_
        rintro _ _ ⟨b_3, rfl, rfl⟩
        refine WL.loud (.take 0 rfl (.nil)) (Ld.store ti24 rfl rfl rfl rfl rfl rfl) trivial rfl ?_
        rintro _ _ rfl
        refine WL.nil ?_
        refine WX.next ?_
        have hbd := layP_bound (cs := cs) (f := f) (to := to) hok (by omega) (show k < t.kids.length by omega) hn
        rw [← hst] at hbd
        try dsimp only at hbd
        refine WC.region ?_
        refine WL.quiet (Qt.loadB 7 rfl ta57 rfl rfl) rfl rfl ?_
        refine WL.quiet (Qt.loadBA 0 rfl ta24 ti24 rfl rfl) rfl rfl ?_
        refine WL.quiet (Qt.loadBA 3 rfl ta59 ti59 rfl rfl) rfl rfl ?_
        refine WL.call (.use 2 rfl (fun _ h => h) (.take 6 rfl (.take 6 rfl (.take 6 rfl (.take 6 rfl (.nil)))))) (Cl.val cb19 rfl rfl) (ih' (t.kids[k]) f to (m) cs2 _ hcl _ _ (by have := kid_size t k (by omega); omega) (ok_kid hok k (by omega)) (kid_range hok (by omega) hr (by omega)) (by omega)) trivial rfl ?_
        rintro _ _ ⟨cur_3, rfl, rfl⟩
        refine WL.nil ?_
        refine WX.block_end ?_
        refine WX.next ?_
        refine WC.region ?_
        refine WL.quiet (Qt.add rfl rfl (by omega)) rfl rfl ?_
        refine WL.quiet (Qt.move rfl) rfl rfl ?_
        refine WL.nil ?_
        exact WX.back (k + 1, (layT (t.kids[k]) f to (m, cs2)).1, (layT (t.kids[k]) f to (m, cs2)).2, cur_3) ⟨by omega, by rw [layP_take _ _ (by omega), ← hst]⟩ (by first | omega | (dsimp only; omega) | (simp; omega)) ⟨rfl, rfl, rfl, rfl, rfl, trivial⟩ (.take 7 rfl (.take 7 rfl (.use 7 rfl (fun _ h => h) (.take 0 rfl (.take 0 rfl (.take 0 rfl (.take 0 rfl (.nil))))))))
      ·
        refine WC.exit ?_
        refine WX.pass_exit ?_
        refine WX.pass_exit ?_
        refine WX.block_exit ?_
        refine WX.block_end ?_
        rw [layT_par t f to (n, cs) (by omega) (by omega)]
        rw [List.take_of_length_le (show t.kids.length ≤ k by omega)] at hst
        rw [← hst]
        refine WX.end0 (.take 3 rfl (.take 3 rfl (.take 3 rfl (.take 3 rfl (.nil))))) rfl ?_
        exact ⟨_, rfl, rfl⟩
    ·
      refine WC.seq ?_
      refine WC.region ?_
      refine WL.quiet (Qt.fieldAddrB tf24_2 rfl) rfl rfl ?_
      refine WL.quiet (Qt.loadB 1 rfl ta22 rfl rfl) rfl rfl ?_
      refine WL.quiet (Qt.lenS Tryz.underlying22 rfl) rfl rfl ?_
      refine WL.quiet (Qt.sub rfl rfl (by omega)) rfl rfl ?_
      refine WL.quiet (Qt.assign rfl) rfl rfl ?_
      refine WL.nil ?_
      refine WX.next ?_
      refine WC.seq ?_
      refine WC.seq ?_
      have hshape := ok_two hok (by omega)
      have hlast : ((t.kids.length : Nat) : Int) - 1 = ((t.kids.length - 1 : Nat) : Int) := by omega
      rw [hlast]
      refine WC.region ?_
      refine WL.quiet (Qt.fieldAddrB tf24_2 rfl) rfl rfl ?_
      refine WL.quiet (Qt.loadB 1 rfl ta22 rfl rfl) rfl rfl ?_
      refine WL.quiet (Qt.move rfl) rfl rfl ?_
      refine WL.learn (Z := Unit) 2 rfl (rd_take (t.kids.length - 1)) ?_
      rintro _ _
      refine WL.quiet (Qt.cutHighRd 3 rfl Tryz.underlying22 ti24 rfl rfl (by omega)) rfl rfl ?_
      refine WL.quiet (Qt.lenS Tryz.underlying22 rfl) rfl rfl ?_
      refine WL.quiet (Qt.move rfl) rfl rfl ?_
      refine WL.nil ?_
      refine WX.next ?_
      refine WC.block ?_
      refine WC.loop (fun w0 : Nat × Nat × (List Contact) × (List Value) × ByteArray => [(3, .pointer (some ⟨bl, 0, none⟩)), (4, .pointer (some ⟨bn, 0, none⟩)), (5, .pointer (some ⟨b_1, 0, none⟩)), (6, .pointer (some ⟨b_2, 0, none⟩)), (9, .int .i64 (((t.kids.length - 1) : Nat) : Int)), (22, .slice A ((t.kids.take (t.kids.length - 1)).length) q), (23, .int .i64 (((t.kids.take (t.kids.length - 1)).length : Nat) : Int)), (24, .int .i64 ((w0.1 : Nat) : Int))]) (fun w0 => [rd kTree A q (t.kids.take (t.kids.length - 1)), blk b_2 59 [.string w0.2.2.2.2, .string to], blk b_1 24 [.int .i64 t.kind, .int .i64 t.n, .slice A t.kids.length q], rd kTree A q t.kids, blk bo 35 [.slice (some ⟨b, 0, none⟩) cs.length c], blk bl 57 [.func (.func 19) #[] [.pointer (some ⟨bo, 0, none⟩), .pointer (some ⟨bl, 0, none⟩), .pointer (some ⟨bn, 0, none⟩)].toArray], blk bn 3 [.int .i64 ((w0.2.1 : Nat) : Int)], rowL kContact 39 b c w0.2.2.1 w0.2.2.2.1]) (fun w0 => w0.1 ≤ (t.kids.take (t.kids.length - 1)).length ∧ (w0.2.2.2.2, w0.2.1, w0.2.2.1) = laySeq (t.kids.take w0.1) f (n, cs)) (fun w0 => (t.kids.take (t.kids.length - 1)).length - w0.1) (0, n, cs, cur, f) ⟨Nat.zero_le _, by rw [List.take_zero, laySeq]⟩ ⟨rfl, rfl, rfl, rfl, rfl, rfl, rfl, rfl, trivial⟩ (.use 0 rfl (fun _ h => h) (.take 1 rfl (.take 1 rfl (.use 1 rfl (fun _ h => h) (.take 2 rfl (.take 2 rfl (.take 2 rfl (.take 2 rfl (.nil))))))))) ?_
      rintro ⟨k, m, cs2, cu, at0⟩ ⟨hk, hst⟩
      try dsimp only at hk hst
      have hcl : cs2.length = cs.length := by have := laySeq_len (t.kids.take k) f (n, cs); rw [← hst] at this; exact this
      have htl : (t.kids.take (t.kids.length - 1)).length = t.kids.length - 1 := by rw [List.length_take]; omega
      show WC _ _ _ _ _ _ [(3, .pointer (some ⟨bl, 0, none⟩)), (4, .pointer (some ⟨bn, 0, none⟩)), (5, .pointer (some ⟨b_1, 0, none⟩)), (6, .pointer (some ⟨b_2, 0, none⟩)), (9, .int .i64 (((t.kids.length - 1) : Nat) : Int)), (22, .slice A ((t.kids.take (t.kids.length - 1)).length) q), (23, .int .i64 (((t.kids.take (t.kids.length - 1)).length : Nat) : Int)), (24, .int .i64 ((k : Nat) : Int))] [rd kTree A q (t.kids.take (t.kids.length - 1)), blk b_2 59 [.string at0, .string to], blk b_1 24 [.int .i64 t.kind, .int .i64 t.n, .slice A t.kids.length q], rd kTree A q t.kids, blk bo 35 [.slice (some ⟨b, 0, none⟩) cs.length c], blk bl 57 [.func (.func 19) #[] [.pointer (some ⟨bo, 0, none⟩), .pointer (some ⟨bl, 0, none⟩), .pointer (some ⟨bn, 0, none⟩)].toArray], blk bn 3 [.int .i64 ((m : Nat) : Int)], rowL kContact 39 b c cs2 cu]
      refine WC.seq ?_
      refine WC.region ?_
      refine WL.quiet (Qt.lss rfl rfl) rfl rfl ?_
      refine WL.nil ?_
      refine WX.next ?_
      refine WC.seq ?_
      refine WC.condD rfl (fun hc_4 => ?_) (fun hc_4 => ?_)
      ·
        refine WC.skip ?_
        refine WX.next ?_
        refine WC.seq ?_
        refine WC.block ?_
        refine WC.seq ?_
        refine WC.region ?_
        have hj_3 : k < t.kids.length := by omega
        refine WL.learn 3 rfl (rd_at k hj_3 (vTree _)) ?_
        rintro ⟨p_2, ⟨A_2, c_2⟩⟩ hA_2
        refine WL.quiet (Qt.indexAddrE k hA_2 Tryz.underlying22 ti24 rfl rfl (by first | assumption | omega)) rfl rfl ?_
        refine WL.quiet (Qt.loadCA (p := p_2.add (k * 3)) (o := 0) 0 rfl ta24 ti24 rfl rfl) rfl rfl ?_
        refine WL.loud (.nil) (Ld.alloc ti24 rfl) trivial rfl ?_
        rintro _ _ ⟨b_4, rfl, rfl⟩
        refine WL.loud (.take 0 rfl (.nil)) (Ld.store ti24 rfl rfl rfl rfl rfl rfl) trivial rfl ?_
        rintro _ _ rfl
        refine WL.nil ?_
        refine WX.next ?_
        refine WC.seq ?_
        have hbd := laySeq_bound (cs := cs) (f := f) hok (by omega) (show k + 1 < t.kids.length by omega) hn
        rw [← hst] at hbd
        try dsimp only at hbd
        have htk : (t.kids.take (t.kids.length - 1))[k]'(by omega) = t.kids[k] := List.getElem_take ..
        refine WC.region ?_
        refine WL.quiet (Qt.loadB 9 rfl ta3 rfl rfl) rfl rfl ?_
        refine WL.quiet (Qt.add rfl rfl (by omega)) rfl rfl ?_
        refine WL.loud (.take 9 rfl (.nil)) (Ld.store ti3 rfl rfl rfl rfl rfl rfl) trivial rfl ?_
        rintro _ _ rfl
        refine WL.nil ?_
        refine WX.next ?_
        refine WC.seq ?_
        refine WC.region ?_
        refine WL.quiet (Qt.loadB 0 rfl ta3 rfl rfl) rfl rfl ?_
        refine WL.call (.nil) (Cl.func cb20 rfl) (Spec.ofPure (Any.strconv_Itoa_small zitoa (m + 1) (by omega))) trivial rfl ?_
        rintro _ _ ⟨rfl, rfl⟩
        refine WL.quiet (Qt.sadd rfl rfl (name_size (by omega))) rfl rfl ?_
        refine WL.quiet (Qt.assign rfl) rfl rfl ?_
        refine WL.nil ?_
        refine WX.next ?_
        refine WC.seq ?_
        refine WC.region ?_
        refine WL.quiet (Qt.loadB 9 rfl ta57 rfl rfl) rfl rfl ?_
        refine WL.quiet (Qt.loadBA 1 rfl ta24 ti24 rfl rfl) rfl rfl ?_
        refine WL.quiet (Qt.fieldAddrB tf59_0 rfl) rfl rfl ?_
        refine WL.quiet (Qt.loadB 5 rfl ta9 rfl rfl) rfl rfl ?_
        refine WL.quiet (Qt.move rfl) rfl rfl ?_
        refine WL.quiet (Qt.build tp59 ti59 rfl rfl rfl) rfl rfl ?_
        refine WL.call (.use 3 rfl (fun _ h => h) (.take 8 rfl (.take 8 rfl (.take 0 rfl (.take 7 rfl (.nil)))))) (Cl.val cb19 rfl rfl) (ih' (t.kids[k]) at0 ((⟨#[110]⟩ : ByteArray) ++ (digits (m + 1))) (m + 1) cs2 _ hcl _ _ (by have := kid_size t k (by omega); omega) (ok_kid hok k (by omega)) (kid_range hok (by omega) hr (by omega)) (by omega)) trivial rfl ?_
        rintro _ _ ⟨cur_4, rfl, rfl⟩
        refine WL.nil ?_
        refine WX.next ?_
        refine WC.region ?_
        refine WL.quiet (Qt.move rfl) rfl rfl ?_
        refine WL.quiet (Qt.fieldAddrB tf59_0 rfl) rfl rfl ?_
        refine WL.loud (.take 8 rfl (.nil)) (Ld.store ti9 rfl rfl rfl rfl rfl rfl) trivial rfl ?_
        rintro _ _ rfl
        refine WL.nil ?_
        refine WX.block_end ?_
        refine WX.next ?_
        refine WC.region ?_
        refine WL.quiet (Qt.add rfl rfl (by omega)) rfl rfl ?_
        refine WL.quiet (Qt.move rfl) rfl rfl ?_
        refine WL.nil ?_
        exact WX.back (k + 1, (layT (t.kids[k]) at0 ((⟨#[110]⟩ : ByteArray) ++ (digits (m + 1))) (m + 1, cs2)).1, (layT (t.kids[k]) at0 ((⟨#[110]⟩ : ByteArray) ++ (digits (m + 1))) (m + 1, cs2)).2, cur_4, nodeName (m + 1)) ⟨by omega, by rw [laySeq_take _ _ (by omega), ← hst]; rfl⟩ (by first | omega | (dsimp only; omega) | (simp; omega)) ⟨rfl, rfl, rfl, rfl, rfl, rfl, rfl, rfl, trivial⟩ (.use 8 rfl (fun _ h => h) (.take 0 rfl (.take 8 rfl (.use 8 rfl (fun _ h => h) (.take 0 rfl (.take 0 rfl (.take 0 rfl (.take 0 rfl (.nil)))))))))
      ·
        refine WC.exit ?_
        refine WX.pass_exit ?_
        refine WX.pass_exit ?_
        refine WX.block_exit ?_
        refine WX.next ?_
        have hke : k = t.kids.length - 1 := by omega
        rw [hke] at hst
        have hbd := laySeq_boundL (cs := cs) (f := f) hok (by omega) (show t.kids.length - 1 < t.kids.length by omega) hn
        rw [← hst] at hbd
        try dsimp only at hbd
        have hj_4 : (t.kids.length - 1) < t.kids.length := by omega
        refine WC.learn 3 rfl (rd_at (t.kids.length - 1) hj_4 (vTree _)) ?_
        rintro ⟨p_3, ⟨A_3, c_3⟩⟩ hA_3
        refine WC.draw (Γq := [cellsAt (p_3.add ((t.kids.length - 1) * 3)) [.int .i64 (t.kids[(t.kids.length - 1)].kind), .int .i64 (t.kids[(t.kids.length - 1)].n), .slice A_3 (t.kids[(t.kids.length - 1)].kids.length) c_3], rd kTree A_3 c_3 (t.kids[(t.kids.length - 1)].kids), rd kTree A q (t.kids.take (t.kids.length - 1)), blk b_2 59 [.string at0, .string to], blk b_1 24 [.int .i64 t.kind, .int .i64 t.n, .slice A t.kids.length q], rd kTree A q t.kids]) [0, 1, 2, 3, 4, 5, 6, 7] mixed ?_
        refine WA.take (by kernel_rfl) 1 (by decide) rfl (by kernel_rfl) (by kernel_rfl) (by kernel_rfl) (Calm.inBlock (calm_FQ _ _)) (Qt.fieldAddrB tf24_2 rfl) trivial rfl (.use 0 rfl (fun _ h => h) (.use 1 rfl (fun _ h => h) (.use 2 rfl (fun _ h => h) (.take 3 rfl (.take 3 rfl (.use 3 rfl (fun _ h => h) (.nil))))))) ?_
        refine WA.take (by kernel_rfl) 2 (by decide) rfl (by kernel_rfl) (by kernel_rfl) (by kernel_rfl) (Calm.inBlock (calm_FQ _ _)) (Qt.loadB 4 rfl ta22 rfl rfl) trivial rfl (.use 0 rfl (fun _ h => h) (.use 1 rfl (fun _ h => h) (.use 2 rfl (fun _ h => h) (.take 3 rfl (.take 3 rfl (.use 3 rfl (fun _ h => h) (.nil))))))) ?_
        refine WA.take (by kernel_rfl) 3 (by decide) rfl (by kernel_rfl) (by kernel_rfl) (by kernel_rfl) (Calm.inBlock (calm_FQ _ _)) (Qt.move rfl) trivial rfl (.use 0 rfl (fun _ h => h) (.use 1 rfl (fun _ h => h) (.use 2 rfl (fun _ h => h) (.take 3 rfl (.take 3 rfl (.use 3 rfl (fun _ h => h) (.nil))))))) ?_
        refine WA.take (by kernel_rfl) 4 (by decide) rfl (by kernel_rfl) (by kernel_rfl) (by kernel_rfl) (Calm.inBlock (calm_FQ _ _)) (Qt.indexAddrE (t.kids.length - 1) hA_3 Tryz.underlying22 ti24 rfl rfl (by first | assumption | omega)) trivial rfl (.use 0 rfl (fun _ h => h) (.use 1 rfl (fun _ h => h) (.use 2 rfl (fun _ h => h) (.take 3 rfl (.take 3 rfl (.use 3 rfl (fun _ h => h) (.nil))))))) ?_
        refine WA.take (by kernel_rfl) 5 (by decide) rfl (by kernel_rfl) (by kernel_rfl) (by kernel_rfl) (Calm.inBlock (calm_FQ _ _)) (Qt.loadCA (p := p_3.add ((t.kids.length - 1) * 3)) (o := 0) 0 rfl ta24 ti24 rfl rfl) trivial rfl (.use 0 rfl (fun _ h => h) (.use 1 rfl (fun _ h => h) (.use 2 rfl (fun _ h => h) (.take 3 rfl (.take 3 rfl (.use 3 rfl (fun _ h => h) (.nil))))))) ?_
        refine WA.take (by kernel_rfl) 6 (by decide) rfl (by kernel_rfl) (by kernel_rfl) (by kernel_rfl) (Calm.inBlock (calm_FQ _ _)) (Qt.loadBA 3 rfl ta59 ti59 rfl rfl) trivial rfl (.use 0 rfl (fun _ h => h) (.use 1 rfl (fun _ h => h) (.use 2 rfl (fun _ h => h) (.take 3 rfl (.take 3 rfl (.use 3 rfl (fun _ h => h) (.nil))))))) ?_
        refine WA.one 0 (by kernel_rfl) ?_
        refine WO.quiet rfl (Qt.loadB 7 rfl ta57 rfl rfl) trivial rfl (.use 0 rfl (fun _ h => h) (.use 1 rfl (fun _ h => h) (.use 2 rfl (fun _ h => h) (.take 3 rfl (.take 3 rfl (.use 3 rfl (fun _ h => h) (.nil))))))) ?_
        refine WA.one 7 (by kernel_rfl) ?_
        refine WO.call rfl (.use 1 rfl (fun _ h => h) (.take 6 rfl (.take 6 rfl (.take 6 rfl (.take 6 rfl (.nil)))))) (Cl.val cb19 rfl rfl) (ih' (t.kids[(t.kids.length - 1)]) at0 to (m) cs2 _ hcl _ _ (by have := kid_size t (t.kids.length - 1) (by omega); omega) (ok_kid hok (t.kids.length - 1) (by omega)) (kid_range hok (by omega) hr (by omega)) (by omega)) trivial rfl (by rintro _ _ ⟨cur_5, rfl, rfl⟩; exact ⟨_, (.use 4 rfl (fun _ h => h) (.use 5 rfl (fun _ h => h) (.use 6 rfl (fun _ h => h) (.take 7 rfl (.take 7 rfl (.use 7 rfl (fun _ h => h) (.nil)))))))⟩) ?_
        rintro _ _ ⟨cur_5, rfl, rfl⟩
        refine WA.done (by kernel_rfl) ?_
        refine WX.block_end ?_
        rw [layT_ser t f to (n, cs) (by omega) (by omega), layS_kids hshape.2 f to (n, cs), ← hst]
        refine WX.end0 (.take 0 rfl (.take 0 rfl (.take 0 rfl (.take 0 rfl (.nil))))) rfl ?_
        exact ⟨_, rfl, rfl⟩
theorem layW (t : PT) (f to : ByteArray) (n : Nat) (cs : List Contact) (cur : List Value) (A : Option Addr) (q b c bo bl bn : Nat) (hok : t.ok) (hr : ∀ x, x ∈ t.leaves → 0 ≤ x ∧ x < (cs.length : Int)) (hn : n + t.leaves.length ≤ 99) : Spec μ Tryz.prog 19 #[.agg [.int .i64 t.kind, .int .i64 t.n, .slice A t.kids.length q].toArray, .agg [.string f, .string to].toArray, .pointer (some ⟨bo, 0, none⟩), .pointer (some ⟨bl, 0, none⟩), .pointer (some ⟨bn, 0, none⟩)] [rd kTree A q t.kids, blk bo 35 [.slice (some ⟨b, 0, none⟩) cs.length c], blk bl 57 [.func (.func 19) #[] [.pointer (some ⟨bo, 0, none⟩), .pointer (some ⟨bl, 0, none⟩), .pointer (some ⟨bn, 0, none⟩)].toArray], blk bn 3 [.int .i64 ((n : Nat) : Int)], rowL kContact 39 b c cs cur] fun v Δ => ∃ cur1, v = .tuple #[] ∧ Δ = [blk bo 35 [.slice (some ⟨b, 0, none⟩) cs.length c], blk bl 57 [.func (.func 19) #[] [.pointer (some ⟨bo, 0, none⟩), .pointer (some ⟨bl, 0, none⟩), .pointer (some ⟨bn, 0, none⟩)].toArray], blk bn 3 [.int .i64 (((layT t f to (n, cs)).1 : Nat) : Int)], rowL kContact 39 b c (layT t f to (n, cs)).2 cur1] := layW_ih _ t f to n cs cur A q b c bo bl bn (Nat.lt_succ_self _) hok hr hn

end Go.Proofs.YtkhmbhdlfpalkaaGreatDoor.Sep

/- A walk, printed by gen.py out of hints. -/
namespace Go.Proofs.YtkhmbhdlfpalkaaGreatDoor.Sep
open Go
variable {μ : Prop}
theorem expandW (t : PT) (l : List Contact) (A B : Option Addr) (c d : Nat) (hv : Vld (l.length : Int) [] t) (hl : t.leaves.length = l.length) (hb : l.length ≤ 98) : Spec μ Tryz.prog 9 #[.agg [.int .i64 t.kind, .int .i64 t.n, .slice A t.kids.length c].toArray, .slice B l.length d] [rd kTree A c t.kids, rd kContact B d l] fun v Δ => ∃ A1 c1, v = .tuple #[.agg #[.string (⟨#[]⟩ : ByteArray), .slice A1 (layT t sL sR (0, l)).2.length c1, .slice none 0 0, .string (⟨#[]⟩ : ByteArray)], .int .i64 0] ∧ Δ = [rd kContact A1 c1 (layT t sL sR (0, l)).2] := by
  refine Spec.of_body (n := 27) Tryz.func9 rfl rfl rfl fun w0 S0 O0 => ?_
  show WC _ _ _ _ _ _ [(0, .agg [.int .i64 t.kind, .int .i64 t.n, .slice A t.kids.length c].toArray), (1, .slice B l.length d)] [rd kTree A c t.kids, rd kContact B d l]
  refine WC.learn (Z := Unit) (Δ := fun _ => []) (φ := fun _ => t.kids.length ≤ c ∧ c ≤ 9223372036854775807) 0 rfl (fun S w h => ⟨(), rd_bounds h, nofacts⟩) ?_
  rintro _ ⟨hb_1, hb_2⟩
  refine WC.learn (Z := Unit) 1 rfl rd_none ?_
  rintro _ hnone
  refine WC.seq ?_
  refine WC.region ?_
  refine WL.loud (.nil) (Ld.box rfl rfl) trivial rfl ?_
  rintro _ _ ⟨b_1, rfl, rfl⟩
  refine WL.loud (.nil) (Ld.alloc ti42 rfl) trivial rfl ?_
  rintro _ _ ⟨b_2, rfl, rfl⟩
  refine WL.quiet (Qt.assign rfl) rfl rfl ?_
  refine WL.nil ?_
  refine WX.next ?_
  refine WC.seq ?_
  refine WC.seq ?_
  refine WC.region ?_
  refine WL.quiet (Qt.loadBA 1 rfl ta24 ti24 rfl rfl) rfl rfl ?_
  refine WL.quiet (Qt.move rfl) rfl rfl ?_
  refine WL.quiet (Qt.lenS Tryz.underlying35 rfl) rfl rfl ?_
  refine WL.call (.use 2 rfl (fun _ h => h) (.nil)) (Cl.func cb8 rfl) (treeCheckW t ((l.length : Nat) : Int) _ _) trivial rfl ?_
  rintro _ _ ⟨e_1, rfl, rfl, hck_1⟩
  refine WL.quiet (Qt.assign rfl) rfl rfl ?_
  refine WL.nil ?_
  refine WX.next ?_
  refine WC.seq ?_
  have he0 : e_1 = 0 := hck_1.2 ⟨hv, by omega⟩
  have hpos : 0 < l.length := by have := ok_leaves t hv.1; omega
  refine WC.region ?_
  refine WL.quiet (Qt.move rfl) rfl rfl ?_
  refine WL.quiet (Qt.neq rfl rfl) rfl rfl ?_
  refine WL.nil ?_
  refine WX.next ?_
  refine WC.condD rfl (fun hc_1 => ?_) (fun hc_1 => ?_)
  ·
    exact absurd he0 hc_1
  ·
    refine WC.skip ?_
    refine WX.next ?_
    refine WC.seq ?_
    refine WC.region ?_
    refine WL.quiet (Qt.move rfl) rfl rfl ?_
    refine WL.call (.use 3 rfl (fun _ h => h) (.nil)) (Cl.func cb18 rfl) (cloneW l _ _ hnone (by omega)) trivial rfl ?_
    rintro _ _ ⟨A_1, c_1, rfl, rfl⟩
    refine WL.loud (.nil) (Ld.alloc ti35 rfl) trivial rfl ?_
    rintro _ _ ⟨b_3, rfl, rfl⟩
    refine WL.loud (.take 0 rfl (.nil)) (Ld.store ti35 rfl rfl rfl rfl rfl rfl) trivial rfl ?_
    rintro _ _ rfl
    refine WL.nil ?_
    refine WX.next ?_
    refine WC.seq ?_
    refine WC.turn (.take 1 rfl (.nil)) (row_open (hpos)) ?_
    rintro _ ⟨b_4, cur_1, rfl, rfl⟩
    refine WC.region ?_
    refine WL.loud (.nil) (Ld.alloc ti3 rfl) trivial rfl ?_
    rintro _ _ ⟨b_5, rfl, rfl⟩
    refine WL.loud (.take 0 rfl (.nil)) (Ld.store ti3 rfl rfl rfl rfl rfl rfl) trivial rfl ?_
    rintro _ _ rfl
    refine WL.nil ?_
    refine WX.next ?_
    refine WC.seq ?_
    refine WC.region ?_
    refine WL.loud (.nil) (Ld.alloc ti57 rfl) trivial rfl ?_
    rintro _ _ ⟨b_6, rfl, rfl⟩
    refine WL.nil ?_
    refine WX.next ?_
    refine WC.seq ?_
    refine WC.region ?_
    refine WL.quiet (Qt.makeFunc (vs := []) rfl rfl) rfl rfl ?_
    refine WL.loud (.take 0 rfl (.nil)) (Ld.store ti57 rfl rfl rfl rfl rfl rfl) trivial rfl ?_
    rintro _ _ rfl
    refine WL.nil ?_
    refine WX.next ?_
    refine WC.seq ?_
    refine WC.region ?_
    refine WL.quiet (Qt.loadB 0 rfl ta57 rfl rfl) rfl rfl ?_
    refine WL.quiet (Qt.loadBA 5 rfl ta24 ti24 rfl rfl) rfl rfl ?_
    refine WL.quiet (Qt.build tp59 ti59 rfl rfl rfl) rfl rfl ?_
    refine WL.call (.use 6 rfl (fun _ h => h) (.take 3 rfl (.take 0 rfl (.take 0 rfl (.take 0 rfl (.nil)))))) (Cl.val cb19 rfl rfl) (layW t sL sR 0 l cur_1 _ _ b_4 c_1 b_3 b_6 b_5 hv.1 hv.2.1 (by omega)) trivial rfl ?_
    rintro _ _ ⟨cur_2, rfl, rfl⟩
    refine WL.nil ?_
    refine WX.next ?_
    refine WC.seq ?_
    refine WC.region ?_
    refine WL.quiet (Qt.loadB 0 rfl ta35 rfl rfl) rfl rfl ?_
    refine WL.quiet (Qt.build tp42 ti42 rfl rfl rfl) rfl rfl ?_
    refine WL.loud (.take 4 rfl (.nil)) (Ld.store ti42 rfl rfl rfl rfl rfl rfl) trivial rfl ?_
    rintro _ _ rfl
    refine WL.quiet (Qt.assign rfl) rfl rfl ?_
    refine WL.nil ?_
    refine WX.next ?_
    refine WC.ret ?_
    refine WX.turn (.take 4 rfl (.nil)) (row_close) ?_
    rintro _ rfl
    refine WX.turn (.take 0 rfl (.nil)) (freeze_row) ?_
    rintro _ rfl
    refine WX.retC1 1 (.use 0 rfl (fun _ h => h) (.nil)) rfl rfl rfl rfl ta42 ti42 rfl ?_
    exact ⟨_, _, by rw [layT_len], rfl⟩

end Go.Proofs.YtkhmbhdlfpalkaaGreatDoor.Sep

/- A walk, printed by gen.py out of hints. -/
namespace Go.Proofs.YtkhmbhdlfpalkaaGreatDoor.Sep
open Go
variable {μ : Prop}
theorem leastR (t : PT) (A : Option Addr) (c : Nat) (hne : 0 < t.leaves.length) (hlen : t.leaves.length ≤ 1000000) : Spec μ Tryz.prog 42 #[.agg [.int .i64 t.kind, .int .i64 t.n, .slice A t.kids.length c].toArray] [rd kTree A c t.kids] fun v Δ => v = .int .i64 (minL t.leaves) ∧ Δ = [] := by
  refine Spec.of_body (n := 28) Tryz.func42 rfl rfl rfl fun w0 S0 O0 => ?_
  show WC _ _ _ _ _ _ [(0, .agg [.int .i64 t.kind, .int .i64 t.n, .slice A t.kids.length c].toArray)] [rd kTree A c t.kids]
  refine WC.learn (Z := Unit) (Δ := fun _ => []) (φ := fun _ => t.kids.length ≤ c ∧ c ≤ 9223372036854775807) 0 rfl (fun S w h => ⟨(), rd_bounds h, nofacts⟩) ?_
  rintro _ ⟨hb_1, hb_2⟩
  refine WC.seq ?_
  refine WC.region ?_
  refine WL.loud (.nil) (Ld.box rfl rfl) trivial rfl ?_
  rintro _ _ ⟨b_1, rfl, rfl⟩
  refine WL.quiet (Qt.assign rfl) rfl rfl ?_
  refine WL.nil ?_
  refine WX.next ?_
  refine WC.seq ?_
  refine WC.region ?_
  refine WL.quiet (Qt.loadBA 0 rfl ta31 ti31 rfl rfl) rfl rfl ?_
  refine WL.call (.use 1 rfl (fun _ h => h) (.nil)) (Cl.func cb6 rfl) (leavesR t _ _ (by omega)) trivial rfl ?_
  rintro _ _ ⟨A_1, c_1, rfl, rfl⟩
  refine WL.turn (.take 0 rfl (.nil)) (freeze_row) ?_
  rintro _ rfl
  refine WL.quiet (Qt.assign rfl) rfl rfl ?_
  refine WL.nil ?_
  refine WX.next ?_
  refine WC.seq ?_
  refine WC.region ?_
  refine WL.quiet (Qt.move rfl) rfl rfl ?_
  have hj_1 : 0 < t.leaves.length := by omega
  refine WL.learn 0 rfl (rd_at 0 hj_1 (vInt _)) ?_
  rintro ⟨p_1, ⟨⟩⟩ hA_1
  refine WL.quiet (Qt.indexAddrE 0 hA_1 Tryz.underlying27 ti3 rfl rfl (by first | assumption | omega)) rfl rfl ?_
  refine WL.quiet (Qt.loadC (p := p_1.add (0 * 1)) (o := 0) 0 rfl ta3 rfl rfl) rfl rfl ?_
  refine WL.quiet (Qt.assign rfl) rfl rfl ?_
  refine WL.nil ?_
  refine WX.next ?_
  refine WC.seq ?_
  refine WC.seq ?_
  refine WC.region ?_
  refine WL.quiet (Qt.assign rfl) rfl rfl ?_
  refine WL.nil ?_
  refine WX.next ?_
  refine WC.block ?_
  refine WC.loop (fun w0 : Nat × Int => [(2, .int .i64 0), (3, .slice A_1 t.leaves.length c_1), (4, .int .i64 w0.2), (5, .int .i64 ((w0.1 : Nat) : Int))]) (fun w0 => [cellsAt (p_1.add (0 * 1)) [.int .i64 (t.leaves[0])], rd kInt A_1 c_1 t.leaves, blk b_1 31 [.int .i64 t.kind, .int .i64 t.n, .slice A t.kids.length c], rd kTree A c t.kids]) (fun w0 => w0.1 ≤ t.leaves.length ∧ w0.2 = minL (t.leaves.take (max w0.1 1))) (fun w0 => t.leaves.length - w0.1) (0, t.leaves[0]) ⟨Nat.zero_le _, by dsimp only; rw [show max 0 1 = 1 from rfl, minL_one _ hne]⟩ ⟨rfl, rfl, rfl, rfl, trivial⟩ (.use 0 rfl (fun _ h => h) (.use 1 rfl (fun _ h => h) (.take 2 rfl (.use 2 rfl (fun _ h => h) (.nil))))) ?_
  rintro ⟨k, m⟩ ⟨hk, hm⟩
  try dsimp only at hk hm
  show WC _ _ _ _ _ _ [(2, .int .i64 0), (3, .slice A_1 t.leaves.length c_1), (4, .int .i64 m), (5, .int .i64 ((k : Nat) : Int))] [cellsAt (p_1.add (0 * 1)) [.int .i64 (t.leaves[0])], rd kInt A_1 c_1 t.leaves, blk b_1 31 [.int .i64 t.kind, .int .i64 t.n, .slice A t.kids.length c], rd kTree A c t.kids]
  refine WC.seq ?_
  refine WC.seq ?_
  refine WC.region ?_
  refine WL.quiet (Qt.move rfl) rfl rfl ?_
  refine WL.quiet (Qt.move rfl) rfl rfl ?_
  refine WL.quiet (Qt.lenS Tryz.underlying27 rfl) rfl rfl ?_
  refine WL.quiet (Qt.lss rfl rfl) rfl rfl ?_
  refine WL.nil ?_
  refine WX.next ?_
  refine WC.condD rfl (fun hc_1 => ?_) (fun hc_1 => ?_)
  ·
    refine WC.skip ?_
    refine WX.next ?_
    refine WC.seq ?_
    refine WC.block ?_
    refine WC.seq ?_
    refine WC.region ?_
    refine WL.quiet (Qt.move rfl) rfl rfl ?_
    refine WL.quiet (Qt.move rfl) rfl rfl ?_
    have hj_2 : k < t.leaves.length := by omega
    refine WL.learn 1 rfl (rd_at k hj_2 (vInt _)) ?_
    rintro ⟨p_2, ⟨⟩⟩ hA_2
    refine WL.quiet (Qt.indexAddrE k hA_2 Tryz.underlying27 ti3 rfl rfl (by first | assumption | omega)) rfl rfl ?_
    refine WL.quiet (Qt.loadC (p := p_2.add (k * 1)) (o := 0) 0 rfl ta3 rfl rfl) rfl rfl ?_
    refine WL.quiet (Qt.move rfl) rfl rfl ?_
    refine WL.quiet (Qt.lss rfl rfl) rfl rfl ?_
    refine WL.nil ?_
    refine WX.next ?_
    refine WC.condD rfl (fun hc_2 => ?_) (fun hc_2 => ?_)
    ·
      refine WC.region ?_
      refine WL.quiet (Qt.move rfl) rfl rfl ?_
      refine WL.quiet (Qt.move rfl) rfl rfl ?_
      refine WL.quiet (Qt.indexAddrE k hA_2 Tryz.underlying27 ti3 rfl rfl (by first | assumption | omega)) rfl rfl ?_
      refine WL.quiet (Qt.loadC (p := p_2.add (k * 1)) (o := 0) 0 rfl ta3 rfl rfl) rfl rfl ?_
      refine WL.quiet (Qt.assign rfl) rfl rfl ?_
      refine WL.nil ?_
      refine WX.block_end ?_
      refine WX.next ?_
      refine WC.region ?_
      refine WL.quiet (Qt.move rfl) rfl rfl ?_
      refine WL.quiet (Qt.add rfl rfl (by omega)) rfl rfl ?_
      refine WL.quiet (Qt.assign rfl) rfl rfl ?_
      refine WL.nil ?_
      exact WX.back (k + 1, t.leaves[k]) ⟨by omega, least_step hm (by omega) (by first | exact .inl ⟨hc_2, rfl⟩ | exact .inr ⟨hc_2, rfl⟩)⟩ (by first | omega | (dsimp only; omega) | (simp; omega)) ⟨rfl, rfl, rfl, rfl, trivial⟩ (.use 1 rfl (fun _ h => h) (.use 2 rfl (fun _ h => h) (.take 3 rfl (.use 3 rfl (fun _ h => h) (.nil)))))
    ·
      refine WC.skip ?_
      refine WX.block_end ?_
      refine WX.next ?_
      refine WC.region ?_
      refine WL.quiet (Qt.move rfl) rfl rfl ?_
      refine WL.quiet (Qt.add rfl rfl (by omega)) rfl rfl ?_
      refine WL.quiet (Qt.assign rfl) rfl rfl ?_
      refine WL.nil ?_
      exact WX.back (k + 1, m) ⟨by omega, least_step hm (by omega) (by first | exact .inl ⟨hc_2, rfl⟩ | exact .inr ⟨hc_2, rfl⟩)⟩ (by first | omega | (dsimp only; omega) | (simp; omega)) ⟨rfl, rfl, rfl, rfl, trivial⟩ (.use 1 rfl (fun _ h => h) (.use 2 rfl (fun _ h => h) (.take 3 rfl (.use 3 rfl (fun _ h => h) (.nil)))))
  ·
    refine WC.exit ?_
    refine WX.pass_exit ?_
    refine WX.pass_exit ?_
    refine WX.block_exit ?_
    refine WX.next ?_
    refine WC.seq ?_
    refine WC.region ?_
    refine WL.quiet (Qt.move rfl) rfl rfl ?_
    refine WL.quiet (Qt.assign rfl) rfl rfl ?_
    refine WL.nil ?_
    refine WX.next ?_
    refine WC.ret ?_
    refine WX.ret1 (.nil) rfl rfl ?_
    exact ⟨by rw [hm, List.take_of_length_le (by omega)], rfl⟩

end Go.Proofs.YtkhmbhdlfpalkaaGreatDoor.Sep

/- A walk, printed by gen.py out of hints. -/
namespace Go.Proofs.YtkhmbhdlfpalkaaGreatDoor.Sep
open Go
variable {μ : Prop}
theorem joinR (kind : Int) (a b : PT) (A B : Option Addr) (c d : Nat) (hpos : ∀ x, x ∈ flatK kind [a, b] → 0 < x.leaves.length) (hnd : a.nodes + b.nodes ≤ 1000000) : Spec μ Tryz.prog 25 #[.int .i64 kind, .agg [.int .i64 a.kind, .int .i64 a.n, .slice A a.kids.length c].toArray, .agg [.int .i64 b.kind, .int .i64 b.n, .slice B b.kids.length d].toArray] [rd kTree A c a.kids, rd kTree B d b.kids] fun v Δ => ∃ A1 c1, v = .agg #[.int .i64 (joinRT kind a b).kind, .int .i64 (joinRT kind a b).n, .slice A1 (joinRT kind a b).kids.length c1] ∧ Δ = [rd kTree A1 c1 (joinRT kind a b).kids] := by
  refine Spec.of_body (n := 90) Tryz.func25 rfl rfl rfl fun w0 S0 O0 => ?_
  show WC _ _ _ _ _ _ [(0, .int .i64 kind), (1, .agg [.int .i64 a.kind, .int .i64 a.n, .slice A a.kids.length c].toArray), (2, .agg [.int .i64 b.kind, .int .i64 b.n, .slice B b.kids.length d].toArray)] [rd kTree A c a.kids, rd kTree B d b.kids]
  refine WC.learn (Z := Unit) (Δ := fun _ => []) (φ := fun _ => a.kids.length ≤ c ∧ c ≤ 9223372036854775807) 0 rfl (fun S w h => ⟨(), rd_bounds h, nofacts⟩) ?_
  rintro _ ⟨hb_1, hb_2⟩
  refine WC.learn (Z := Unit) (Δ := fun _ => []) (φ := fun _ => b.kids.length ≤ d ∧ d ≤ 9223372036854775807) 1 rfl (fun S w h => ⟨(), rd_bounds h, nofacts⟩) ?_
  rintro _ ⟨hb_3, hb_4⟩
  refine WC.seq ?_
  refine WC.region ?_
  refine WL.loud (.nil) (Ld.box rfl rfl) trivial rfl ?_
  rintro _ _ ⟨b_1, rfl, rfl⟩
  refine WL.loud (.nil) (Ld.box rfl rfl) trivial rfl ?_
  rintro _ _ ⟨b_2, rfl, rfl⟩
  refine WL.loud (.nil) (Ld.alloc ti31 rfl) trivial rfl ?_
  rintro _ _ ⟨b_3, rfl, rfl⟩
  refine WL.nil ?_
  refine WX.next ?_
  refine WC.seq ?_
  refine WC.region ?_
  refine WL.quiet (Qt.assign rfl) rfl rfl ?_
  refine WL.nil ?_
  refine WX.next ?_
  refine WC.seq ?_
  refine WC.region ?_
  refine WL.quiet (Qt.loadBA 2 rfl ta31 ti31 rfl rfl) rfl rfl ?_
  refine WL.quiet (Qt.loadBA 1 rfl ta31 ti31 rfl rfl) rfl rfl ?_
  refine WL.loud (.nil) (Ld.buildSlice (zs := [.int .i64 0, .int .i64 0, .slice none 0 0, .int .i64 0, .int .i64 0, .slice none 0 0]) Tryz.underlying29 ti31 rfl rfl (by kernel_rfl) rfl rfl) trivial rfl ?_
  rintro _ _ ⟨b_4, rfl, rfl⟩
  refine WL.turn (.take 0 rfl (.use 3 rfl (fun _ h => h) (.use 4 rfl (fun _ h => h) (.nil)))) (blk_row (e := kTree) (U := [rd kTree A c a.kids, rd kTree B d b.kids]) [a, b] (fun F hF => by revert F; simp [List.forall_mem_cons, rd, pers, cellsAt]) (fun S w h => Reps.append (xs := [a]) (ys := [b]) (l := [.int .i64 a.kind, .int .i64 a.n, .slice A a.kids.length c]) (m := [.int .i64 b.kind, .int .i64 b.n, .slice B b.kids.length d]) (Reps.one (mkTreeE (h _ (by simp)))) (Reps.one (mkTreeE (h _ (by simp))))) (by simp)) ?_
  rintro _ rfl
  refine WL.turn (.take 0 rfl (.nil)) (freeze_row) ?_
  rintro _ rfl
  refine WL.quiet (Qt.assign rfl) rfl rfl ?_
  refine WL.nil ?_
  refine WX.next ?_
  refine WC.seq ?_
  refine WC.seq ?_
  refine WC.region ?_
  refine WL.quiet (Qt.assign rfl) rfl rfl ?_
  refine WL.nil ?_
  refine WX.next ?_
  refine WC.block ?_
  refine WC.turn (.nil) (nil_row (e := kTree) (t := 31)) ?_
  rintro _ rfl
  refine WC.loop (fun w0 : Nat × (Option Addr) × Nat × (List PT) => [(0, .int .i64 kind), (6, .pointer (some ⟨b_3, 0, none⟩)), (7, .slice w0.2.1 w0.2.2.2.length w0.2.2.1), (8, .slice (some ⟨b_4, 0, none⟩) 2 2), (9, .int .i64 ((w0.1 : Nat) : Int))]) (fun w0 => [row kTree 31 w0.2.1 w0.2.2.1 w0.2.2.2, rd kTree (some ⟨b_4, 0, none⟩) 2 [a, b], blk b_3 31 [.int .i64 0, .int .i64 0, .slice none 0 0], blk b_2 31 [.int .i64 b.kind, .int .i64 b.n, .slice B b.kids.length d], blk b_1 31 [.int .i64 a.kind, .int .i64 a.n, .slice A a.kids.length c], rd kTree A c a.kids, rd kTree B d b.kids]) (fun w0 => w0.1 ≤ 2 ∧ w0.2.2.2 = flatK kind ([a, b].take w0.1)) (fun w0 => 2 - w0.1) (0, none, 0, []) ⟨by omega, rfl⟩ ⟨rfl, rfl, rfl, rfl, rfl, trivial⟩ (.take 0 rfl (.use 0 rfl (fun _ h => h) (.take 1 rfl (.take 1 rfl (.take 1 rfl (.use 1 rfl (fun _ h => h) (.use 2 rfl (fun _ h => h) (.nil)))))))) ?_
  rintro ⟨k, A1, c1, acc⟩ ⟨hk, hacc⟩
  try dsimp only at hk hacc
  show WC _ _ _ _ _ _ [(0, .int .i64 kind), (6, .pointer (some ⟨b_3, 0, none⟩)), (7, .slice A1 acc.length c1), (8, .slice (some ⟨b_4, 0, none⟩) 2 2), (9, .int .i64 ((k : Nat) : Int))] [row kTree 31 A1 c1 acc, rd kTree (some ⟨b_4, 0, none⟩) 2 [a, b], blk b_3 31 [.int .i64 0, .int .i64 0, .slice none 0 0], blk b_2 31 [.int .i64 b.kind, .int .i64 b.n, .slice B b.kids.length d], blk b_1 31 [.int .i64 a.kind, .int .i64 a.n, .slice A a.kids.length c], rd kTree A c a.kids, rd kTree B d b.kids]
  refine WC.seq ?_
  refine WC.seq ?_
  refine WC.region ?_
  refine WL.quiet (Qt.move rfl) rfl rfl ?_
  refine WL.quiet (Qt.lss rfl rfl) rfl rfl ?_
  refine WL.nil ?_
  refine WX.next ?_
  refine WC.condD rfl (fun hc_1 => ?_) (fun hc_1 => ?_)
  ·
    refine WC.skip ?_
    refine WX.next ?_
    refine WC.seq ?_
    refine WC.block ?_
    refine WC.seq ?_
    have hab : k < [a, b].length := by show k < 2; omega
    have hfk := flatK_kid kind [a, b] k hab
    have hnk := nodes_kids [a, b][k]
    have hnab : nodesL [a, b] = a.nodes + b.nodes := by simp [nodesL]
    have hal : acc.length = (flatK kind ([a, b].take k)).length := by rw [hacc]
    have hnp := nodes_pos [a, b][k]
    refine WC.region ?_
    refine WL.quiet (Qt.move rfl) rfl rfl ?_
    refine WL.quiet (Qt.move rfl) rfl rfl ?_
    have hj_1 : k < [a, b].length := hab
    refine WL.learn 1 rfl (rd_at k hj_1 (vTree _)) ?_
    rintro ⟨p_1, ⟨A_1, c_1⟩⟩ hA_1
    refine WL.quiet (Qt.indexAddrE k hA_1 Tryz.underlying29 ti31 rfl rfl (by first | assumption | omega)) rfl rfl ?_
    refine WL.quiet (Qt.fieldAddr tf31_0 rfl) rfl rfl ?_
    refine WL.quiet (Qt.loadC (p := p_1.add (k * 3)) (o := 0) 0 rfl ta3 rfl rfl) rfl rfl ?_
    refine WL.quiet (Qt.move rfl) rfl rfl ?_
    refine WL.quiet (Qt.eql rfl rfl) rfl rfl ?_
    refine WL.nil ?_
    refine WX.next ?_
    refine WC.condD rfl (fun hc_2 => ?_) (fun hc_2 => ?_)
    ·
      refine WC.region ?_
      refine WL.quiet (Qt.move rfl) rfl rfl ?_
      refine WL.quiet (Qt.move rfl) rfl rfl ?_
      refine WL.quiet (Qt.move rfl) rfl rfl ?_
      refine WL.quiet (Qt.indexAddrE k hA_1 Tryz.underlying29 ti31 rfl rfl (by first | assumption | omega)) rfl rfl ?_
      refine WL.quiet (Qt.fieldAddr tf31_2 rfl) rfl rfl ?_
      refine WL.quiet (Qt.loadC (p := p_1.add (k * 3)) (o := 2) 0 rfl ta29 rfl rfl) rfl rfl ?_
      refine WL.loud (.take 2 rfl (.use 1 rfl (fun _ h => h) (.nil))) (Ld.appendRd (e := kTree) (xs := acc) (ys := ([a, b][k].kids)) Tryz.underlying29 ti31 rfl (by decide) (by decide) rfl rfl (by first | omega | (simp; omega))) trivial rfl ?_
      rintro _ _ ⟨A_2, c_2, rfl, rfl⟩
      refine WL.quiet (Qt.assign rfl) rfl rfl ?_
      refine WL.nil ?_
      refine WX.block_end ?_
      refine WX.next ?_
      refine WC.region ?_
      refine WL.quiet (Qt.move rfl) rfl rfl ?_
      refine WL.quiet (Qt.add rfl rfl (by omega)) rfl rfl ?_
      refine WL.quiet (Qt.assign rfl) rfl rfl ?_
      refine WL.nil ?_
      exact WX.back (k + 1, A_2, c_2, acc ++ ([a, b][k].kids)) ⟨by omega, by rw [flatK_take _ _ _ hab, hacc]; first | rw [if_pos hc_2] | rw [if_neg hc_2]⟩ (by first | omega | (dsimp only; omega) | (simp; omega)) ⟨rfl, rfl, rfl, rfl, rfl, trivial⟩ (.take 0 rfl (.use 2 rfl (fun _ h => h) (.take 3 rfl (.take 3 rfl (.take 3 rfl (.use 3 rfl (fun _ h => h) (.use 4 rfl (fun _ h => h) (.nil))))))))
    ·
      refine WC.region ?_
      refine WL.quiet (Qt.move rfl) rfl rfl ?_
      refine WL.quiet (Qt.move rfl) rfl rfl ?_
      refine WL.quiet (Qt.move rfl) rfl rfl ?_
      refine WL.quiet (Qt.indexAddrE k hA_1 Tryz.underlying29 ti31 rfl rfl (by first | assumption | omega)) rfl rfl ?_
      refine WL.quiet (Qt.loadCA (p := p_1.add (k * 3)) (o := 0) 0 rfl ta31 ti31 rfl rfl) rfl rfl ?_
      refine WL.loud (.nil) (Ld.buildSlice (zs := [.int .i64 0, .int .i64 0, .slice none 0 0]) Tryz.underlying29 ti31 rfl rfl (by kernel_rfl) rfl rfl) trivial rfl ?_
      rintro _ _ ⟨b_5, rfl, rfl⟩
      refine WL.loud (.take 3 rfl (.take 0 rfl (.use 1 rfl (fun _ h => h) (.nil)))) (Ld.append1 (e := kTree) (xs := acc) ([a, b][k]) Tryz.underlying29 ti31 rfl (by decide) (by decide) rfl rfl (by first | omega | (simp; omega)) (fun S w h => mkTreeE (h _ (by simp)))) trivial rfl ?_
      rintro _ _ ⟨A_3, c_3, rfl, rfl⟩
      refine WL.quiet (Qt.assign rfl) rfl rfl ?_
      refine WL.nil ?_
      refine WX.block_end ?_
      refine WX.next ?_
      refine WC.region ?_
      refine WL.quiet (Qt.move rfl) rfl rfl ?_
      refine WL.quiet (Qt.add rfl rfl (by omega)) rfl rfl ?_
      refine WL.quiet (Qt.assign rfl) rfl rfl ?_
      refine WL.nil ?_
      exact WX.back (k + 1, A_3, c_3, acc ++ [[a, b][k]]) ⟨by omega, by rw [flatK_take _ _ _ hab, hacc]; first | rw [if_pos hc_2] | rw [if_neg hc_2]⟩ (by first | omega | (dsimp only; omega) | (simp; omega)) ⟨rfl, rfl, rfl, rfl, rfl, trivial⟩ (.take 0 rfl (.use 2 rfl (fun _ h => h) (.take 3 rfl (.take 3 rfl (.take 3 rfl (.use 3 rfl (fun _ h => h) (.use 4 rfl (fun _ h => h) (.nil))))))))
  ·
    refine WC.exit ?_
    refine WX.pass_exit ?_
    refine WX.pass_exit ?_
    refine WX.block_exit ?_
    refine WX.next ?_
    refine WC.seq ?_
    refine WC.seq ?_
    have hend : acc = flatK kind [a, b] := by rw [hacc, List.take_of_length_le (by show 2 ≤ k; omega)]
    clear hacc hk
    refine WC.region ?_
    refine WL.quiet (Qt.move rfl) rfl rfl ?_
    refine WL.quiet (Qt.eql rfl rfl) rfl rfl ?_
    refine WL.nil ?_
    refine WX.next ?_
    refine WC.condD rfl (fun hc_3 => ?_) (fun hc_3 => ?_)
    ·
      refine WC.seq ?_
      refine WC.region ?_
      refine WL.quiet (Qt.move rfl) rfl rfl ?_
      refine WL.quiet (Qt.build tp31 ti31 rfl rfl rfl) rfl rfl ?_
      refine WL.loud (.take 2 rfl (.nil)) (Ld.store ti31 rfl rfl rfl rfl rfl rfl) trivial rfl ?_
      rintro _ _ rfl
      refine WL.nil ?_
      refine WX.next ?_
      refine WC.ret ?_
      refine WX.pass_ret ?_
      subst hend
      rw [joinRT_ser a b hc_3]
      refine WX.turn (.take 1 rfl (.nil)) (freeze_row) ?_
      rintro _ rfl
      refine WX.retC 1 (.use 0 rfl (fun _ h => h) (.nil)) rfl rfl rfl ta31 ti31 rfl ?_
      exact ⟨_, _, rfl, rfl⟩
    ·
      refine WC.skip ?_
      refine WX.next ?_
      refine WC.seq ?_
      have hfo := flat_ok hend hnd hpos
      refine WC.turn (.take 0 rfl (.nil)) (freeze_row) ?_
      rintro _ rfl
      refine WC.region ?_
      refine WL.quiet (Qt.assign rfl) rfl rfl ?_
      refine WL.nil ?_
      refine WX.next ?_
      refine WC.seq ?_
      refine WC.seq ?_
      refine WC.region ?_
      refine WL.quiet (Qt.assign rfl) rfl rfl ?_
      refine WL.nil ?_
      refine WX.next ?_
      refine WC.block ?_
      refine WC.turn (.nil) (nil_row (e := kTree) (t := 31)) ?_
      rintro _ rfl
      refine WC.turn (.take 0 rfl (.nil)) (freeze_row) ?_
      rintro _ rfl
      refine WC.loop (fun w0 : Nat × (Option Addr) × Nat × (List PT) => [(6, .pointer (some ⟨b_3, 0, none⟩)), (7, .slice A1 acc.length c1), (10, .slice w0.2.1 w0.2.2.2.length w0.2.2.1), (11, .int .i64 ((w0.1 : Nat) : Int))]) (fun w0 => [rd kTree w0.2.1 w0.2.2.1 w0.2.2.2, rd kTree A1 c1 acc, rd kTree (some ⟨b_4, 0, none⟩) 2 [a, b], blk b_3 31 [.int .i64 0, .int .i64 0, .slice none 0 0], blk b_2 31 [.int .i64 b.kind, .int .i64 b.n, .slice B b.kids.length d], blk b_1 31 [.int .i64 a.kind, .int .i64 a.n, .slice A a.kids.length c], rd kTree A c a.kids, rd kTree B d b.kids]) (fun w0 => w0.1 ≤ acc.length ∧ w0.2.2.2 = sortIns (acc.take w0.1)) (fun w0 => acc.length - w0.1) (0, none, 0, []) ⟨Nat.zero_le _, rfl⟩ ⟨rfl, rfl, rfl, rfl, trivial⟩ (.use 0 rfl (fun _ h => h) (.use 1 rfl (fun _ h => h) (.use 2 rfl (fun _ h => h) (.take 3 rfl (.take 3 rfl (.take 3 rfl (.use 3 rfl (fun _ h => h) (.use 4 rfl (fun _ h => h) (.nil))))))))) ?_
      rintro ⟨q, A2, c2, out⟩ ⟨hq0, hout⟩
      try dsimp only at hq0 hout
      have hso := sort_ok hout hfo hq0
      show WC _ _ _ _ _ _ [(6, .pointer (some ⟨b_3, 0, none⟩)), (7, .slice A1 acc.length c1), (10, .slice A2 out.length c2), (11, .int .i64 ((q : Nat) : Int))] [rd kTree A2 c2 out, rd kTree A1 c1 acc, rd kTree (some ⟨b_4, 0, none⟩) 2 [a, b], blk b_3 31 [.int .i64 0, .int .i64 0, .slice none 0 0], blk b_2 31 [.int .i64 b.kind, .int .i64 b.n, .slice B b.kids.length d], blk b_1 31 [.int .i64 a.kind, .int .i64 a.n, .slice A a.kids.length c], rd kTree A c a.kids, rd kTree B d b.kids]
      refine WC.seq ?_
      refine WC.seq ?_
      refine WC.region ?_
      refine WL.quiet (Qt.move rfl) rfl rfl ?_
      refine WL.quiet (Qt.move rfl) rfl rfl ?_
      refine WL.quiet (Qt.lenS Tryz.underlying29 rfl) rfl rfl ?_
      refine WL.quiet (Qt.lss rfl rfl) rfl rfl ?_
      refine WL.nil ?_
      refine WX.next ?_
      refine WC.condD rfl (fun hc_4 => ?_) (fun hc_4 => ?_)
      ·
        refine WC.skip ?_
        refine WX.next ?_
        refine WC.seq ?_
        refine WC.block ?_
        refine WC.seq ?_
        have hq : q < acc.length := by omega
        refine WC.region ?_
        refine WL.quiet (Qt.assign rfl) rfl rfl ?_
        refine WL.nil ?_
        refine WX.next ?_
        refine WC.seq ?_
        refine WC.block ?_
        refine WC.loop (fun w0 : Nat => [(6, .pointer (some ⟨b_3, 0, none⟩)), (7, .slice A1 acc.length c1), (10, .slice A2 out.length c2), (11, .int .i64 ((q : Nat) : Int)), (46, .int .i64 ((q : Nat) : Int)), (47, .slice A1 acc.length c1), (48, .int .i64 ((acc.length : Nat) : Int)), (49, .bool (decide (((q : Nat) : Int) < ((acc.length : Nat) : Int)))), (12, .int .i64 ((w0 : Nat) : Int))]) (fun w0 => [rd kTree A2 c2 out, rd kTree A1 c1 acc, rd kTree (some ⟨b_4, 0, none⟩) 2 [a, b], blk b_3 31 [.int .i64 0, .int .i64 0, .slice none 0 0], blk b_2 31 [.int .i64 b.kind, .int .i64 b.n, .slice B b.kids.length d], blk b_1 31 [.int .i64 a.kind, .int .i64 a.n, .slice A a.kids.length c], rd kTree A c a.kids, rd kTree B d b.kids]) (fun w0 => w0 ≤ out.length ∧ ∀ y, y ∈ out.take w0 → leastT y < leastT acc[q]) (fun w0 => out.length - w0) 0 ⟨Nat.zero_le _, by simp⟩ ⟨rfl, rfl, rfl, rfl, rfl, rfl, rfl, rfl, rfl, trivial⟩ (.use 0 rfl (fun _ h => h) (.use 1 rfl (fun _ h => h) (.use 2 rfl (fun _ h => h) (.take 3 rfl (.take 3 rfl (.take 3 rfl (.use 3 rfl (fun _ h => h) (.use 4 rfl (fun _ h => h) (.nil))))))))) ?_
        rintro k ⟨hk, hb⟩
        try dsimp only at hk hb
        show WC _ _ _ _ _ _ [(6, .pointer (some ⟨b_3, 0, none⟩)), (7, .slice A1 acc.length c1), (10, .slice A2 out.length c2), (11, .int .i64 ((q : Nat) : Int)), (46, .int .i64 ((q : Nat) : Int)), (47, .slice A1 acc.length c1), (48, .int .i64 ((acc.length : Nat) : Int)), (49, .bool (decide (((q : Nat) : Int) < ((acc.length : Nat) : Int)))), (12, .int .i64 ((k : Nat) : Int))] [rd kTree A2 c2 out, rd kTree A1 c1 acc, rd kTree (some ⟨b_4, 0, none⟩) 2 [a, b], blk b_3 31 [.int .i64 0, .int .i64 0, .slice none 0 0], blk b_2 31 [.int .i64 b.kind, .int .i64 b.n, .slice B b.kids.length d], blk b_1 31 [.int .i64 a.kind, .int .i64 a.n, .slice A a.kids.length c], rd kTree A c a.kids, rd kTree B d b.kids]
        refine WC.seq ?_
        refine WC.cut (fun _ : Unit => [(6, .pointer (some ⟨b_3, 0, none⟩)), (7, .slice A1 acc.length c1), (10, .slice A2 out.length c2), (11, .int .i64 ((q : Nat) : Int)), (46, .int .i64 ((q : Nat) : Int)), (47, .slice A1 acc.length c1), (48, .int .i64 ((acc.length : Nat) : Int)), (49, .bool (decide (((q : Nat) : Int) < ((acc.length : Nat) : Int)))), (12, .int .i64 ((k : Nat) : Int)), (68, .bool (before out k acc[q]))]) (fun _ => [rd kTree A2 c2 out, rd kTree A1 c1 acc, rd kTree (some ⟨b_4, 0, none⟩) 2 [a, b], blk b_3 31 [.int .i64 0, .int .i64 0, .slice none 0 0], blk b_2 31 [.int .i64 b.kind, .int .i64 b.n, .slice B b.kids.length d], blk b_1 31 [.int .i64 a.kind, .int .i64 a.n, .slice A a.kids.length c], rd kTree A c a.kids, rd kTree B d b.kids]) (fun _ => True) ?_ ?_
        ·
          refine WC.case (k < out.length) (fun hin_1 => ?_) (fun hin_1 => ?_)
          ·
            have hj_2 : k < out.length := by omega
            refine WC.learn 0 rfl (rd_at k hj_2 (vTree _)) ?_
            rintro ⟨p_2, ⟨A_4, c_4⟩⟩ hA_2
            have hj_3 : q < acc.length := by omega
            refine WC.learn 3 rfl (rd_at q hj_3 (vTree _)) ?_
            rintro ⟨p_3, ⟨A_5, c_5⟩⟩ hA_3
            refine WC.draw (Γq := [cellsAt (p_3.add (q * 3)) [.int .i64 (acc[q].kind), .int .i64 (acc[q].n), .slice A_5 (acc[q].kids.length) c_5], rd kTree A_5 c_5 (acc[q].kids), cellsAt (p_2.add (k * 3)) [.int .i64 (out[k].kind), .int .i64 (out[k].n), .slice A_4 (out[k].kids.length) c_4], rd kTree A_4 c_4 (out[k].kids), rd kTree A2 c2 out, rd kTree A1 c1 acc, rd kTree (some ⟨b_4, 0, none⟩) 2 [a, b], blk b_3 31 [.int .i64 0, .int .i64 0, .slice none 0 0], blk b_2 31 [.int .i64 b.kind, .int .i64 b.n, .slice B b.kids.length d], blk b_1 31 [.int .i64 a.kind, .int .i64 a.n, .slice A a.kids.length c], rd kTree A c a.kids, rd kTree B d b.kids]) [0, 1, 2, 3, 4, 5, 6, 7, 8, 9, 10, 11, 12, 13, 14, 15, 16] mixed ?_
            refine WA.take (by kernel_rfl) 0 (by decide) rfl (by kernel_rfl) (by kernel_rfl) (by kernel_rfl) (Calm.then (Calm.then (Calm.then (Calm.inBlock (Calm.then (Calm.inBlock (Calm.then (Calm.then (Calm.inBlock (Calm.then (calm_FQ _ _))))))))))) (Qt.move rfl) trivial rfl (.use 0 rfl (fun _ h => h) (.use 1 rfl (fun _ h => h) (.use 2 rfl (fun _ h => h) (.use 3 rfl (fun _ h => h) (.use 4 rfl (fun _ h => h) (.use 5 rfl (fun _ h => h) (.use 6 rfl (fun _ h => h) (.take 7 rfl (.take 7 rfl (.take 7 rfl (.use 7 rfl (fun _ h => h) (.use 8 rfl (fun _ h => h) (.nil))))))))))))) ?_
            refine WA.take (by kernel_rfl) 1 (by decide) rfl (by kernel_rfl) (by kernel_rfl) (by kernel_rfl) (Calm.then (Calm.then (Calm.then (Calm.inBlock (Calm.then (Calm.inBlock (Calm.then (Calm.then (Calm.inBlock (Calm.then (calm_FQ _ _))))))))))) (Qt.move rfl) trivial rfl (.use 0 rfl (fun _ h => h) (.use 1 rfl (fun _ h => h) (.use 2 rfl (fun _ h => h) (.use 3 rfl (fun _ h => h) (.use 4 rfl (fun _ h => h) (.use 5 rfl (fun _ h => h) (.use 6 rfl (fun _ h => h) (.take 7 rfl (.take 7 rfl (.take 7 rfl (.use 7 rfl (fun _ h => h) (.use 8 rfl (fun _ h => h) (.nil))))))))))))) ?_
            refine WA.take (by kernel_rfl) 2 (by decide) rfl (by kernel_rfl) (by kernel_rfl) (by kernel_rfl) (Calm.then (Calm.then (Calm.then (Calm.inBlock (Calm.then (Calm.inBlock (Calm.then (Calm.then (Calm.inBlock (Calm.then (calm_FQ _ _))))))))))) (Qt.lenS Tryz.underlying29 rfl) trivial rfl (.use 0 rfl (fun _ h => h) (.use 1 rfl (fun _ h => h) (.use 2 rfl (fun _ h => h) (.use 3 rfl (fun _ h => h) (.use 4 rfl (fun _ h => h) (.use 5 rfl (fun _ h => h) (.use 6 rfl (fun _ h => h) (.take 7 rfl (.take 7 rfl (.take 7 rfl (.use 7 rfl (fun _ h => h) (.use 8 rfl (fun _ h => h) (.nil))))))))))))) ?_
            refine WA.take (by kernel_rfl) 3 (by decide) rfl (by kernel_rfl) (by kernel_rfl) (by kernel_rfl) (Calm.then (Calm.then (Calm.then (Calm.inBlock (Calm.then (Calm.inBlock (Calm.then (Calm.then (Calm.inBlock (Calm.then (calm_FQ _ _))))))))))) (Qt.lss rfl rfl) trivial rfl (.use 0 rfl (fun _ h => h) (.use 1 rfl (fun _ h => h) (.use 2 rfl (fun _ h => h) (.use 3 rfl (fun _ h => h) (.use 4 rfl (fun _ h => h) (.use 5 rfl (fun _ h => h) (.use 6 rfl (fun _ h => h) (.take 7 rfl (.take 7 rfl (.take 7 rfl (.use 7 rfl (fun _ h => h) (.use 8 rfl (fun _ h => h) (.nil))))))))))))) ?_
            refine WA.take (by kernel_rfl) 4 (by decide) rfl (by kernel_rfl) (by kernel_rfl) (by kernel_rfl) (Calm.then (Calm.then (Calm.then (Calm.inBlock (Calm.then (Calm.inBlock (Calm.then (Calm.then (Calm.inBlock (Calm.then (calm_FQ _ _))))))))))) (Qt.move rfl) trivial rfl (.use 0 rfl (fun _ h => h) (.use 1 rfl (fun _ h => h) (.use 2 rfl (fun _ h => h) (.use 3 rfl (fun _ h => h) (.use 4 rfl (fun _ h => h) (.use 5 rfl (fun _ h => h) (.use 6 rfl (fun _ h => h) (.take 7 rfl (.take 7 rfl (.take 7 rfl (.use 7 rfl (fun _ h => h) (.use 8 rfl (fun _ h => h) (.nil))))))))))))) ?_
            refine WA.splitD 56 rfl rfl (fun hg_1 => ?_) (fun hg_1 => ?_)
            ·
              refine WA.take (by kernel_rfl) 5 (by decide) rfl (by kernel_rfl) (by kernel_rfl) (by kernel_rfl) (Calm.then (Calm.then (Calm.then (Calm.inBlock (Calm.then (Calm.inBlock (Calm.then (Calm.then (Calm.inBlock (Calm.then (calm_FQ _ _))))))))))) (Qt.move rfl) ⟨56, rfl, rfl⟩ rfl (.use 0 rfl (fun _ h => h) (.use 1 rfl (fun _ h => h) (.use 2 rfl (fun _ h => h) (.use 3 rfl (fun _ h => h) (.use 4 rfl (fun _ h => h) (.use 5 rfl (fun _ h => h) (.use 6 rfl (fun _ h => h) (.take 7 rfl (.take 7 rfl (.take 7 rfl (.use 7 rfl (fun _ h => h) (.use 8 rfl (fun _ h => h) (.nil))))))))))))) ?_
              refine WA.take (by kernel_rfl) 6 (by decide) rfl (by kernel_rfl) (by kernel_rfl) (by kernel_rfl) (Calm.then (Calm.then (Calm.then (Calm.inBlock (Calm.then (Calm.inBlock (Calm.then (Calm.then (Calm.inBlock (Calm.then (calm_FQ _ _))))))))))) (Qt.move rfl) ⟨56, rfl, rfl⟩ rfl (.use 0 rfl (fun _ h => h) (.use 1 rfl (fun _ h => h) (.use 2 rfl (fun _ h => h) (.use 3 rfl (fun _ h => h) (.use 4 rfl (fun _ h => h) (.use 5 rfl (fun _ h => h) (.use 6 rfl (fun _ h => h) (.take 7 rfl (.take 7 rfl (.take 7 rfl (.use 7 rfl (fun _ h => h) (.use 8 rfl (fun _ h => h) (.nil))))))))))))) ?_
              refine WA.take (by kernel_rfl) 7 (by decide) rfl (by kernel_rfl) (by kernel_rfl) (by kernel_rfl) (Calm.then (Calm.then (Calm.then (Calm.inBlock (Calm.then (Calm.inBlock (Calm.then (Calm.then (Calm.inBlock (Calm.then (calm_FQ _ _))))))))))) (Qt.indexAddrE k hA_2 Tryz.underlying29 ti31 rfl rfl (by first | assumption | omega)) ⟨56, rfl, rfl⟩ rfl (.use 0 rfl (fun _ h => h) (.use 1 rfl (fun _ h => h) (.use 2 rfl (fun _ h => h) (.use 3 rfl (fun _ h => h) (.use 4 rfl (fun _ h => h) (.use 5 rfl (fun _ h => h) (.use 6 rfl (fun _ h => h) (.take 7 rfl (.take 7 rfl (.take 7 rfl (.use 7 rfl (fun _ h => h) (.use 8 rfl (fun _ h => h) (.nil))))))))))))) ?_
              refine WA.take (by kernel_rfl) 8 (by decide) rfl (by kernel_rfl) (by kernel_rfl) (by kernel_rfl) (Calm.then (Calm.then (Calm.then (Calm.inBlock (Calm.then (Calm.inBlock (Calm.then (Calm.then (Calm.inBlock (Calm.then (calm_FQ _ _))))))))))) (Qt.loadCA (p := p_2.add (k * 3)) (o := 0) 2 rfl ta31 ti31 rfl rfl) ⟨56, rfl, rfl⟩ rfl (.use 0 rfl (fun _ h => h) (.use 1 rfl (fun _ h => h) (.use 2 rfl (fun _ h => h) (.use 3 rfl (fun _ h => h) (.use 4 rfl (fun _ h => h) (.use 5 rfl (fun _ h => h) (.use 6 rfl (fun _ h => h) (.take 7 rfl (.take 7 rfl (.take 7 rfl (.use 7 rfl (fun _ h => h) (.use 8 rfl (fun _ h => h) (.nil))))))))))))) ?_
              refine WA.take (by kernel_rfl) 10 (by decide) rfl (by kernel_rfl) (by kernel_rfl) (by kernel_rfl) (Calm.then (Calm.then (Calm.then (Calm.inBlock (Calm.then (Calm.inBlock (Calm.then (Calm.then (Calm.inBlock (Calm.then (calm_FQ _ _))))))))))) (Qt.move rfl) ⟨56, rfl, rfl⟩ rfl (.use 0 rfl (fun _ h => h) (.use 1 rfl (fun _ h => h) (.use 2 rfl (fun _ h => h) (.use 3 rfl (fun _ h => h) (.use 4 rfl (fun _ h => h) (.use 5 rfl (fun _ h => h) (.use 6 rfl (fun _ h => h) (.take 7 rfl (.take 7 rfl (.take 7 rfl (.use 7 rfl (fun _ h => h) (.use 8 rfl (fun _ h => h) (.nil))))))))))))) ?_
              refine WA.take (by kernel_rfl) 11 (by decide) rfl (by kernel_rfl) (by kernel_rfl) (by kernel_rfl) (Calm.then (Calm.then (Calm.then (Calm.inBlock (Calm.then (Calm.inBlock (Calm.then (Calm.then (Calm.inBlock (Calm.then (calm_FQ _ _))))))))))) (Qt.move rfl) ⟨56, rfl, rfl⟩ rfl (.use 0 rfl (fun _ h => h) (.use 1 rfl (fun _ h => h) (.use 2 rfl (fun _ h => h) (.use 3 rfl (fun _ h => h) (.use 4 rfl (fun _ h => h) (.use 5 rfl (fun _ h => h) (.use 6 rfl (fun _ h => h) (.take 7 rfl (.take 7 rfl (.take 7 rfl (.use 7 rfl (fun _ h => h) (.use 8 rfl (fun _ h => h) (.nil))))))))))))) ?_
              refine WA.take (by kernel_rfl) 12 (by decide) rfl (by kernel_rfl) (by kernel_rfl) (by kernel_rfl) (Calm.then (Calm.then (Calm.then (Calm.inBlock (Calm.then (Calm.inBlock (Calm.then (Calm.then (Calm.inBlock (Calm.then (calm_FQ _ _))))))))))) (Qt.indexAddrE q hA_3 Tryz.underlying29 ti31 rfl rfl (by first | assumption | omega)) ⟨56, rfl, rfl⟩ rfl (.use 0 rfl (fun _ h => h) (.use 1 rfl (fun _ h => h) (.use 2 rfl (fun _ h => h) (.use 3 rfl (fun _ h => h) (.use 4 rfl (fun _ h => h) (.use 5 rfl (fun _ h => h) (.use 6 rfl (fun _ h => h) (.take 7 rfl (.take 7 rfl (.take 7 rfl (.use 7 rfl (fun _ h => h) (.use 8 rfl (fun _ h => h) (.nil))))))))))))) ?_
              refine WA.take (by kernel_rfl) 13 (by decide) rfl (by kernel_rfl) (by kernel_rfl) (by kernel_rfl) (Calm.then (Calm.then (Calm.then (Calm.inBlock (Calm.then (Calm.inBlock (Calm.then (Calm.then (Calm.inBlock (Calm.then (calm_FQ _ _))))))))))) (Qt.loadCA (p := p_3.add (q * 3)) (o := 0) 0 rfl ta31 ti31 rfl rfl) ⟨56, rfl, rfl⟩ rfl (.use 0 rfl (fun _ h => h) (.use 1 rfl (fun _ h => h) (.use 2 rfl (fun _ h => h) (.use 3 rfl (fun _ h => h) (.use 4 rfl (fun _ h => h) (.use 5 rfl (fun _ h => h) (.use 6 rfl (fun _ h => h) (.take 7 rfl (.take 7 rfl (.take 7 rfl (.use 7 rfl (fun _ h => h) (.use 8 rfl (fun _ h => h) (.nil))))))))))))) ?_
              refine WA.one 9 (by kernel_rfl) ?_
              refine WO.call rfl (.use 3 rfl (fun _ h => h) (.nil)) (Cl.func cb42 rfl) (leastR (out[k]) _ _ (hso.1 _ (List.getElem_mem _)).1 (hso.1 _ (List.getElem_mem _)).2) ⟨56, rfl, rfl⟩ rfl (by rintro _ _ ⟨rfl, rfl⟩; exact ⟨_, (.use 0 rfl (fun _ h => h) (.use 1 rfl (fun _ h => h) (.use 2 rfl (fun _ h => h) (.use 3 rfl (fun _ h => h) (.use 4 rfl (fun _ h => h) (.use 5 rfl (fun _ h => h) (.use 6 rfl (fun _ h => h) (.take 7 rfl (.take 7 rfl (.take 7 rfl (.use 7 rfl (fun _ h => h) (.use 8 rfl (fun _ h => h) (.nil)))))))))))))⟩) ?_
              rintro _ _ ⟨rfl, rfl⟩
              refine WA.one 14 (by kernel_rfl) ?_
              refine WO.call rfl (.use 1 rfl (fun _ h => h) (.nil)) (Cl.func cb42 rfl) (leastR (acc[q]) _ _ (hfo.1 _ (List.getElem_mem _)).1 (hfo.1 _ (List.getElem_mem _)).2) ⟨56, rfl, rfl⟩ rfl (by rintro _ _ ⟨rfl, rfl⟩; exact ⟨_, (.use 0 rfl (fun _ h => h) (.use 1 rfl (fun _ h => h) (.use 2 rfl (fun _ h => h) (.use 3 rfl (fun _ h => h) (.use 4 rfl (fun _ h => h) (.use 5 rfl (fun _ h => h) (.use 6 rfl (fun _ h => h) (.take 7 rfl (.take 7 rfl (.take 7 rfl (.use 7 rfl (fun _ h => h) (.use 8 rfl (fun _ h => h) (.nil)))))))))))))⟩) ?_
              rintro _ _ ⟨rfl, rfl⟩
              refine WA.take (by kernel_rfl) 15 (by decide) rfl (by kernel_rfl) (by kernel_rfl) (by kernel_rfl) (Calm.then (Calm.then (Calm.then (Calm.inBlock (Calm.then (Calm.inBlock (Calm.then (Calm.then (Calm.inBlock (Calm.then (calm_FQ _ _))))))))))) (Qt.lss rfl rfl) ⟨56, rfl, rfl⟩ rfl (.use 0 rfl (fun _ h => h) (.use 1 rfl (fun _ h => h) (.use 2 rfl (fun _ h => h) (.use 3 rfl (fun _ h => h) (.use 4 rfl (fun _ h => h) (.use 5 rfl (fun _ h => h) (.use 6 rfl (fun _ h => h) (.take 7 rfl (.take 7 rfl (.take 7 rfl (.use 7 rfl (fun _ h => h) (.use 8 rfl (fun _ h => h) (.nil))))))))))))) ?_
              refine WA.take (by kernel_rfl) 16 (by decide) rfl (by kernel_rfl) (by kernel_rfl) (by kernel_rfl) (Calm.then (Calm.then (Calm.then (Calm.inBlock (Calm.then (Calm.inBlock (Calm.then (Calm.then (Calm.inBlock (Calm.then (calm_FQ _ _))))))))))) (Qt.pickT rfl rfl) trivial rfl (.use 0 rfl (fun _ h => h) (.use 1 rfl (fun _ h => h) (.use 2 rfl (fun _ h => h) (.use 3 rfl (fun _ h => h) (.use 4 rfl (fun _ h => h) (.use 5 rfl (fun _ h => h) (.use 6 rfl (fun _ h => h) (.take 7 rfl (.take 7 rfl (.take 7 rfl (.use 7 rfl (fun _ h => h) (.use 8 rfl (fun _ h => h) (.nil))))))))))))) ?_
              refine WA.done (by kernel_rfl) ?_
              exact WX.cut () trivial ⟨rfl, rfl, rfl, rfl, rfl, rfl, rfl, rfl, rfl, (by rw [show before out k acc[q] = (decide ((minL (out[k]).leaves : Int) < (minL (acc[q]).leaves))) from before_pos (by omega)]; rfl), trivial⟩ (.use 4 rfl (fun _ h => h) (.use 5 rfl (fun _ h => h) (.use 6 rfl (fun _ h => h) (.take 7 rfl (.take 7 rfl (.take 7 rfl (.use 7 rfl (fun _ h => h) (.use 8 rfl (fun _ h => h) (.nil)))))))))
            · exact (by omega : False).elim
          ·
            refine WC.draw (Γq := [rd kTree A2 c2 out, rd kTree A1 c1 acc, rd kTree (some ⟨b_4, 0, none⟩) 2 [a, b], blk b_3 31 [.int .i64 0, .int .i64 0, .slice none 0 0], blk b_2 31 [.int .i64 b.kind, .int .i64 b.n, .slice B b.kids.length d], blk b_1 31 [.int .i64 a.kind, .int .i64 a.n, .slice A a.kids.length c], rd kTree A c a.kids, rd kTree B d b.kids]) [0, 1, 2, 3, 4, 5, 6, 7, 8, 9, 10, 11, 12, 13, 14, 15, 16] mixed ?_
            refine WA.take (by kernel_rfl) 0 (by decide) rfl (by kernel_rfl) (by kernel_rfl) (by kernel_rfl) (Calm.then (Calm.then (Calm.then (Calm.inBlock (Calm.then (Calm.inBlock (Calm.then (Calm.then (Calm.inBlock (Calm.then (calm_FQ _ _))))))))))) (Qt.move rfl) trivial rfl (.use 0 rfl (fun _ h => h) (.use 1 rfl (fun _ h => h) (.use 2 rfl (fun _ h => h) (.take 3 rfl (.take 3 rfl (.take 3 rfl (.use 3 rfl (fun _ h => h) (.use 4 rfl (fun _ h => h) (.nil))))))))) ?_
            refine WA.take (by kernel_rfl) 1 (by decide) rfl (by kernel_rfl) (by kernel_rfl) (by kernel_rfl) (Calm.then (Calm.then (Calm.then (Calm.inBlock (Calm.then (Calm.inBlock (Calm.then (Calm.then (Calm.inBlock (Calm.then (calm_FQ _ _))))))))))) (Qt.move rfl) trivial rfl (.use 0 rfl (fun _ h => h) (.use 1 rfl (fun _ h => h) (.use 2 rfl (fun _ h => h) (.take 3 rfl (.take 3 rfl (.take 3 rfl (.use 3 rfl (fun _ h => h) (.use 4 rfl (fun _ h => h) (.nil))))))))) ?_
            refine WA.take (by kernel_rfl) 2 (by decide) rfl (by kernel_rfl) (by kernel_rfl) (by kernel_rfl) (Calm.then (Calm.then (Calm.then (Calm.inBlock (Calm.then (Calm.inBlock (Calm.then (Calm.then (Calm.inBlock (Calm.then (calm_FQ _ _))))))))))) (Qt.lenS Tryz.underlying29 rfl) trivial rfl (.use 0 rfl (fun _ h => h) (.use 1 rfl (fun _ h => h) (.use 2 rfl (fun _ h => h) (.take 3 rfl (.take 3 rfl (.take 3 rfl (.use 3 rfl (fun _ h => h) (.use 4 rfl (fun _ h => h) (.nil))))))))) ?_
            refine WA.take (by kernel_rfl) 3 (by decide) rfl (by kernel_rfl) (by kernel_rfl) (by kernel_rfl) (Calm.then (Calm.then (Calm.then (Calm.inBlock (Calm.then (Calm.inBlock (Calm.then (Calm.then (Calm.inBlock (Calm.then (calm_FQ _ _))))))))))) (Qt.lss rfl rfl) trivial rfl (.use 0 rfl (fun _ h => h) (.use 1 rfl (fun _ h => h) (.use 2 rfl (fun _ h => h) (.take 3 rfl (.take 3 rfl (.take 3 rfl (.use 3 rfl (fun _ h => h) (.use 4 rfl (fun _ h => h) (.nil))))))))) ?_
            refine WA.take (by kernel_rfl) 4 (by decide) rfl (by kernel_rfl) (by kernel_rfl) (by kernel_rfl) (Calm.then (Calm.then (Calm.then (Calm.inBlock (Calm.then (Calm.inBlock (Calm.then (Calm.then (Calm.inBlock (Calm.then (calm_FQ _ _))))))))))) (Qt.move rfl) trivial rfl (.use 0 rfl (fun _ h => h) (.use 1 rfl (fun _ h => h) (.use 2 rfl (fun _ h => h) (.take 3 rfl (.take 3 rfl (.take 3 rfl (.use 3 rfl (fun _ h => h) (.use 4 rfl (fun _ h => h) (.nil))))))))) ?_
            refine WA.splitD 56 rfl rfl (fun hg_2 => ?_) (fun hg_2 => ?_)
            · exact (by omega : False).elim
            ·
              refine WA.skip (by kernel_rfl) 5 (by decide) rfl (by kernel_rfl) (by kernel_rfl) (by kernel_rfl) (Calm.then (Calm.then (Calm.then (Calm.inBlock (Calm.then (Calm.inBlock (Calm.then (Calm.then (Calm.inBlock (Calm.then (calm_FQ _ _))))))))))) 4 true _ rfl 56 rfl rfl (fun c h => by injection h with h; subst h; rfl) rfl (.use 0 rfl (fun _ h => h) (.use 1 rfl (fun _ h => h) (.use 2 rfl (fun _ h => h) (.take 3 rfl (.take 3 rfl (.take 3 rfl (.use 3 rfl (fun _ h => h) (.use 4 rfl (fun _ h => h) (.nil))))))))) ?_
              refine WA.skip (by kernel_rfl) 6 (by decide) rfl (by kernel_rfl) (by kernel_rfl) (by kernel_rfl) (Calm.then (Calm.then (Calm.then (Calm.inBlock (Calm.then (Calm.inBlock (Calm.then (Calm.then (Calm.inBlock (Calm.then (calm_FQ _ _))))))))))) 4 true _ rfl 56 rfl rfl (fun c h => by injection h with h; subst h; rfl) rfl (.use 0 rfl (fun _ h => h) (.use 1 rfl (fun _ h => h) (.use 2 rfl (fun _ h => h) (.take 3 rfl (.take 3 rfl (.take 3 rfl (.use 3 rfl (fun _ h => h) (.use 4 rfl (fun _ h => h) (.nil))))))))) ?_
              refine WA.skip (by kernel_rfl) 7 (by decide) rfl (by kernel_rfl) (by kernel_rfl) (by kernel_rfl) (Calm.then (Calm.then (Calm.then (Calm.inBlock (Calm.then (Calm.inBlock (Calm.then (Calm.then (Calm.inBlock (Calm.then (calm_FQ _ _))))))))))) 4 true _ rfl 56 rfl rfl (fun c h => by injection h with h; subst h; rfl) rfl (.use 0 rfl (fun _ h => h) (.use 1 rfl (fun _ h => h) (.use 2 rfl (fun _ h => h) (.take 3 rfl (.take 3 rfl (.take 3 rfl (.use 3 rfl (fun _ h => h) (.use 4 rfl (fun _ h => h) (.nil))))))))) ?_
              refine WA.skip (by kernel_rfl) 8 (by decide) rfl (by kernel_rfl) (by kernel_rfl) (by kernel_rfl) (Calm.then (Calm.then (Calm.then (Calm.inBlock (Calm.then (Calm.inBlock (Calm.then (Calm.then (Calm.inBlock (Calm.then (calm_FQ _ _))))))))))) 4 true _ rfl 56 rfl rfl (fun c h => by injection h with h; subst h; rfl) rfl (.use 0 rfl (fun _ h => h) (.use 1 rfl (fun _ h => h) (.use 2 rfl (fun _ h => h) (.take 3 rfl (.take 3 rfl (.take 3 rfl (.use 3 rfl (fun _ h => h) (.use 4 rfl (fun _ h => h) (.nil))))))))) ?_
              refine WA.skip (by kernel_rfl) 9 (by decide) rfl (by kernel_rfl) (by kernel_rfl) (by kernel_rfl) (Calm.then (Calm.then (Calm.then (Calm.inBlock (Calm.then (Calm.inBlock (Calm.then (Calm.then (Calm.inBlock (Calm.then (calm_FQ _ _))))))))))) 4 true _ rfl 56 rfl rfl (fun c h => by injection h with h; subst h; rfl) rfl (.use 0 rfl (fun _ h => h) (.use 1 rfl (fun _ h => h) (.use 2 rfl (fun _ h => h) (.take 3 rfl (.take 3 rfl (.take 3 rfl (.use 3 rfl (fun _ h => h) (.use 4 rfl (fun _ h => h) (.nil))))))))) ?_
              refine WA.skip (by kernel_rfl) 10 (by decide) rfl (by kernel_rfl) (by kernel_rfl) (by kernel_rfl) (Calm.then (Calm.then (Calm.then (Calm.inBlock (Calm.then (Calm.inBlock (Calm.then (Calm.then (Calm.inBlock (Calm.then (calm_FQ _ _))))))))))) 4 true _ rfl 56 rfl rfl (fun c h => by injection h with h; subst h; rfl) rfl (.use 0 rfl (fun _ h => h) (.use 1 rfl (fun _ h => h) (.use 2 rfl (fun _ h => h) (.take 3 rfl (.take 3 rfl (.take 3 rfl (.use 3 rfl (fun _ h => h) (.use 4 rfl (fun _ h => h) (.nil))))))))) ?_
              refine WA.skip (by kernel_rfl) 11 (by decide) rfl (by kernel_rfl) (by kernel_rfl) (by kernel_rfl) (Calm.then (Calm.then (Calm.then (Calm.inBlock (Calm.then (Calm.inBlock (Calm.then (Calm.then (Calm.inBlock (Calm.then (calm_FQ _ _))))))))))) 4 true _ rfl 56 rfl rfl (fun c h => by injection h with h; subst h; rfl) rfl (.use 0 rfl (fun _ h => h) (.use 1 rfl (fun _ h => h) (.use 2 rfl (fun _ h => h) (.take 3 rfl (.take 3 rfl (.take 3 rfl (.use 3 rfl (fun _ h => h) (.use 4 rfl (fun _ h => h) (.nil))))))))) ?_
              refine WA.skip (by kernel_rfl) 12 (by decide) rfl (by kernel_rfl) (by kernel_rfl) (by kernel_rfl) (Calm.then (Calm.then (Calm.then (Calm.inBlock (Calm.then (Calm.inBlock (Calm.then (Calm.then (Calm.inBlock (Calm.then (calm_FQ _ _))))))))))) 4 true _ rfl 56 rfl rfl (fun c h => by injection h with h; subst h; rfl) rfl (.use 0 rfl (fun _ h => h) (.use 1 rfl (fun _ h => h) (.use 2 rfl (fun _ h => h) (.take 3 rfl (.take 3 rfl (.take 3 rfl (.use 3 rfl (fun _ h => h) (.use 4 rfl (fun _ h => h) (.nil))))))))) ?_
              refine WA.skip (by kernel_rfl) 13 (by decide) rfl (by kernel_rfl) (by kernel_rfl) (by kernel_rfl) (Calm.then (Calm.then (Calm.then (Calm.inBlock (Calm.then (Calm.inBlock (Calm.then (Calm.then (Calm.inBlock (Calm.then (calm_FQ _ _))))))))))) 4 true _ rfl 56 rfl rfl (fun c h => by injection h with h; subst h; rfl) rfl (.use 0 rfl (fun _ h => h) (.use 1 rfl (fun _ h => h) (.use 2 rfl (fun _ h => h) (.take 3 rfl (.take 3 rfl (.take 3 rfl (.use 3 rfl (fun _ h => h) (.use 4 rfl (fun _ h => h) (.nil))))))))) ?_
              refine WA.skip (by kernel_rfl) 14 (by decide) rfl (by kernel_rfl) (by kernel_rfl) (by kernel_rfl) (Calm.then (Calm.then (Calm.then (Calm.inBlock (Calm.then (Calm.inBlock (Calm.then (Calm.then (Calm.inBlock (Calm.then (calm_FQ _ _))))))))))) 4 true _ rfl 56 rfl rfl (fun c h => by injection h with h; subst h; rfl) rfl (.use 0 rfl (fun _ h => h) (.use 1 rfl (fun _ h => h) (.use 2 rfl (fun _ h => h) (.take 3 rfl (.take 3 rfl (.take 3 rfl (.use 3 rfl (fun _ h => h) (.use 4 rfl (fun _ h => h) (.nil))))))))) ?_
              refine WA.skip (by kernel_rfl) 15 (by decide) rfl (by kernel_rfl) (by kernel_rfl) (by kernel_rfl) (Calm.then (Calm.then (Calm.then (Calm.inBlock (Calm.then (Calm.inBlock (Calm.then (Calm.then (Calm.inBlock (Calm.then (calm_FQ _ _))))))))))) 4 true _ rfl 56 rfl rfl (fun c h => by injection h with h; subst h; rfl) rfl (.use 0 rfl (fun _ h => h) (.use 1 rfl (fun _ h => h) (.use 2 rfl (fun _ h => h) (.take 3 rfl (.take 3 rfl (.take 3 rfl (.use 3 rfl (fun _ h => h) (.use 4 rfl (fun _ h => h) (.nil))))))))) ?_
              refine WA.take (by kernel_rfl) 16 (by decide) rfl (by kernel_rfl) (by kernel_rfl) (by kernel_rfl) (Calm.then (Calm.then (Calm.then (Calm.inBlock (Calm.then (Calm.inBlock (Calm.then (Calm.then (Calm.inBlock (Calm.then (calm_FQ _ _))))))))))) (Qt.pickF rfl rfl) trivial rfl (.use 0 rfl (fun _ h => h) (.use 1 rfl (fun _ h => h) (.use 2 rfl (fun _ h => h) (.take 3 rfl (.take 3 rfl (.take 3 rfl (.use 3 rfl (fun _ h => h) (.use 4 rfl (fun _ h => h) (.nil))))))))) ?_
              refine WA.done (by kernel_rfl) ?_
              exact WX.cut () trivial ⟨rfl, rfl, rfl, rfl, rfl, rfl, rfl, rfl, rfl, (by rw [show before out k acc[q] = false from before_neg (by omega)]; rfl), trivial⟩ (.use 0 rfl (fun _ h => h) (.use 1 rfl (fun _ h => h) (.use 2 rfl (fun _ h => h) (.take 3 rfl (.take 3 rfl (.take 3 rfl (.use 3 rfl (fun _ h => h) (.use 4 rfl (fun _ h => h) (.nil)))))))))
        ·
          intro _ _
          show WC _ _ _ _ _ _ [(6, .pointer (some ⟨b_3, 0, none⟩)), (7, .slice A1 acc.length c1), (10, .slice A2 out.length c2), (11, .int .i64 ((q : Nat) : Int)), (46, .int .i64 ((q : Nat) : Int)), (47, .slice A1 acc.length c1), (48, .int .i64 ((acc.length : Nat) : Int)), (49, .bool (decide (((q : Nat) : Int) < ((acc.length : Nat) : Int)))), (12, .int .i64 ((k : Nat) : Int)), (68, .bool (before out k acc[q]))] [rd kTree A2 c2 out, rd kTree A1 c1 acc, rd kTree (some ⟨b_4, 0, none⟩) 2 [a, b], blk b_3 31 [.int .i64 0, .int .i64 0, .slice none 0 0], blk b_2 31 [.int .i64 b.kind, .int .i64 b.n, .slice B b.kids.length d], blk b_1 31 [.int .i64 a.kind, .int .i64 a.n, .slice A a.kids.length c], rd kTree A c a.kids, rd kTree B d b.kids]
          refine WC.cond rfl (fun hc_5 => ?_) (fun hc_5 => ?_)
          ·
            refine WC.skip ?_
            refine WX.next ?_
            refine WC.block ?_
            refine WC.region ?_
            refine WL.quiet (Qt.move rfl) rfl rfl ?_
            refine WL.quiet (Qt.add rfl rfl (by omega)) rfl rfl ?_
            refine WL.quiet (Qt.assign rfl) rfl rfl ?_
            refine WL.nil ?_
            refine WX.block_end ?_
            exact WX.back (k + 1) ⟨(before_lt hc_5).1, before_step hb hc_5⟩ (by have := (before_lt hc_5).1; omega) ⟨rfl, rfl, rfl, rfl, rfl, rfl, rfl, rfl, rfl, trivial⟩ (.use 0 rfl (fun _ h => h) (.use 1 rfl (fun _ h => h) (.use 2 rfl (fun _ h => h) (.take 3 rfl (.take 3 rfl (.take 3 rfl (.use 3 rfl (fun _ h => h) (.use 4 rfl (fun _ h => h) (.nil)))))))))
          ·
            refine WC.exit ?_
            refine WX.pass_exit ?_
            refine WX.pass_exit ?_
            refine WX.block_exit ?_
            refine WX.next ?_
            refine WC.seq ?_
            refine WC.region ?_
            refine WL.loud (.nil) (Ld.buildEmpty Tryz.underlying29 ti31) trivial rfl ?_
            rintro _ _ ⟨b_6, rfl, rfl⟩
            refine WL.turn (.take 0 rfl (.nil)) (blk_row (e := kTree) (U := []) [] (fun F hF => nomatch hF) (fun S w h => Reps.nil _ _ _) (by simp)) ?_
            rintro _ rfl
            refine WL.quiet (Qt.move rfl) rfl rfl ?_
            refine WL.quiet (Qt.move rfl) rfl rfl ?_
            refine WL.learn (Z := Unit) 1 rfl (rd_take k) ?_
            rintro _ _
            refine WL.quiet (Qt.cutHighRd 2 rfl Tryz.underlying29 ti31 rfl rfl (by omega)) rfl rfl ?_
            refine WL.loud (.take 1 rfl (.use 0 rfl (fun _ h => h) (.nil))) (Ld.appendRd (e := kTree) (xs := []) (ys := (out.take k)) Tryz.underlying29 ti31 rfl (by decide) (by decide) rfl rfl (by first | omega | (simp; omega))) trivial rfl ?_
            rintro _ _ ⟨A_6, c_6, rfl, rfl⟩
            refine WL.quiet (Qt.assign rfl) rfl rfl ?_
            refine WL.nil ?_
            refine WX.next ?_
            refine WC.seq ?_
            refine WC.region ?_
            refine WL.quiet (Qt.move rfl) rfl rfl ?_
            refine WL.quiet (Qt.move rfl) rfl rfl ?_
            refine WL.quiet (Qt.move rfl) rfl rfl ?_
            have hj_4 : q < acc.length := by omega
            refine WL.learn 3 rfl (rd_at q hj_4 (vTree _)) ?_
            rintro ⟨p_4, ⟨A_7, c_7⟩⟩ hA_4
            refine WL.quiet (Qt.indexAddrE q hA_4 Tryz.underlying29 ti31 rfl rfl (by first | assumption | omega)) rfl rfl ?_
            refine WL.quiet (Qt.loadCA (p := p_4.add (q * 3)) (o := 0) 0 rfl ta31 ti31 rfl rfl) rfl rfl ?_
            refine WL.loud (.nil) (Ld.buildSlice (zs := [.int .i64 0, .int .i64 0, .slice none 0 0]) Tryz.underlying29 ti31 rfl rfl (by kernel_rfl) rfl rfl) trivial rfl ?_
            rintro _ _ ⟨b_7, rfl, rfl⟩
            refine WL.loud (.take 3 rfl (.take 0 rfl (.use 1 rfl (fun _ h => h) (.nil)))) (Ld.append1 (e := kTree) (xs := ([] ++ (out.take k))) (acc[q]) Tryz.underlying29 ti31 rfl (by decide) (by decide) rfl rfl (by first | omega | (simp; omega)) (fun S w h => mkTreeE (h _ (by simp)))) trivial rfl ?_
            rintro _ _ ⟨A_8, c_8, rfl, rfl⟩
            refine WL.quiet (Qt.assign rfl) rfl rfl ?_
            refine WL.nil ?_
            refine WX.next ?_
            refine WC.region ?_
            refine WL.quiet (Qt.move rfl) rfl rfl ?_
            refine WL.quiet (Qt.move rfl) rfl rfl ?_
            refine WL.quiet (Qt.move rfl) rfl rfl ?_
            refine WL.learn (Z := Unit) 4 rfl (rd_drop k) ?_
            rintro _ _
            refine WL.quiet (Qt.cutLowRd 5 rfl Tryz.underlying29 ti31 rfl rfl (by omega)) rfl rfl ?_
            refine WL.loud (.take 1 rfl (.use 0 rfl (fun _ h => h) (.nil))) (Ld.appendRd (e := kTree) (xs := ([] ++ (out.take k) ++ [acc[q]])) (ys := (out.drop k)) Tryz.underlying29 ti31 rfl (by decide) (by decide) rfl rfl (by first | omega | (simp; omega))) trivial rfl ?_
            rintro _ _ ⟨A_9, c_9, rfl, rfl⟩
            refine WL.quiet (Qt.assign rfl) rfl rfl ?_
            refine WL.turn (.take 0 rfl (.nil)) (freeze_row) ?_
            rintro _ rfl
            refine WL.nil ?_
            refine WX.block_end ?_
            refine WX.next ?_
            refine WC.region ?_
            refine WL.quiet (Qt.move rfl) rfl rfl ?_
            refine WL.quiet (Qt.add rfl rfl (by omega)) rfl rfl ?_
            refine WL.quiet (Qt.assign rfl) rfl rfl ?_
            refine WL.nil ?_
            exact WX.back (q + 1, A_9, c_9, [] ++ (out.take k) ++ [acc[q]] ++ (out.drop k)) ⟨by omega, sortIns_step hq hout hk hb hc_5⟩ (by first | omega | (dsimp only; omega) | (simp; omega)) ⟨rfl, rfl, rfl, rfl, trivial⟩ (.use 0 rfl (fun _ h => h) (.use 6 rfl (fun _ h => h) (.use 7 rfl (fun _ h => h) (.take 8 rfl (.take 8 rfl (.take 8 rfl (.use 8 rfl (fun _ h => h) (.use 9 rfl (fun _ h => h) (.nil)))))))))
      ·
        refine WC.exit ?_
        refine WX.pass_exit ?_
        refine WX.pass_exit ?_
        refine WX.block_exit ?_
        refine WX.next ?_
        refine WC.seq ?_
        refine WC.region ?_
        refine WL.quiet (Qt.move rfl) rfl rfl ?_
        refine WL.quiet (Qt.build tp31 ti31 rfl rfl rfl) rfl rfl ?_
        refine WL.loud (.take 3 rfl (.nil)) (Ld.store ti31 rfl rfl rfl rfl rfl rfl) trivial rfl ?_
        rintro _ _ rfl
        refine WL.nil ?_
        refine WX.next ?_
        refine WC.ret ?_
        rw [joinRT_par a b hc_3]
        have ho2 : out = sortIns (flatK kind [a, b]) := by rw [hout, List.take_of_length_le (by omega), hend]
        subst ho2
        refine WX.retC 0 (.use 1 rfl (fun _ h => h) (.nil)) rfl rfl rfl ta31 ti31 rfl ?_
        exact ⟨_, _, rfl, rfl⟩

end Go.Proofs.YtkhmbhdlfpalkaaGreatDoor.Sep

/- A walk, printed by gen.py out of hints. -/
namespace Go.Proofs.YtkhmbhdlfpalkaaGreatDoor.Sep
open Go
variable {μ : Prop}
theorem sortedRW_ih (m : Nat) : ∀ (t : PT) (A : Option Addr) (c : Nat), SizeOf.sizeOf t < m → t.ok → (t.nodes ≤ 100000) → Spec μ Tryz.prog 11 #[.agg [.int .i64 t.kind, .int .i64 t.n, .slice A t.kids.length c].toArray] [rd kTree A c t.kids] fun v Δ => ∃ A1 c1, v = .agg #[.int .i64 (sortedR t).kind, .int .i64 (sortedR t).n, .slice A1 (sortedR t).kids.length c1] ∧ Δ = [rd kTree A1 c1 (sortedR t).kids] := by
  induction m with
  | zero => exact fun t A c h => absurd h (Nat.not_lt_zero _)
  | succ m ih =>
  intro t A c hsz hok hnd
  refine Spec.of_body (n := 52) Tryz.func11 rfl rfl rfl fun w0 S0 O0 => ?_
  show WC _ _ _ _ _ _ [(0, .agg [.int .i64 t.kind, .int .i64 t.n, .slice A t.kids.length c].toArray)] [rd kTree A c t.kids]
  refine WC.learn (Z := Unit) (Δ := fun _ => []) (φ := fun _ => t.kids.length ≤ c ∧ c ≤ 9223372036854775807) 0 rfl (fun S w h => ⟨(), rd_bounds h, nofacts⟩) ?_
  rintro _ ⟨hb_1, hb_2⟩
  refine WC.seq ?_
  refine WC.region ?_
  refine WL.loud (.nil) (Ld.box rfl rfl) trivial rfl ?_
  rintro _ _ ⟨b_1, rfl, rfl⟩
  refine WL.loud (.nil) (Ld.alloc ti31 rfl) trivial rfl ?_
  rintro _ _ ⟨b_2, rfl, rfl⟩
  refine WL.nil ?_
  refine WX.next ?_
  refine WC.seq ?_
  refine WC.seq ?_
  refine WC.region ?_
  refine WL.quiet (Qt.fieldAddrB tf31_0 rfl) rfl rfl ?_
  refine WL.quiet (Qt.loadB 1 rfl ta3 rfl rfl) rfl rfl ?_
  refine WL.quiet (Qt.eql rfl rfl) rfl rfl ?_
  refine WL.nil ?_
  refine WX.next ?_
  refine WC.condD rfl (fun hc_1 => ?_) (fun hc_1 => ?_)
  ·
    refine WC.seq ?_
    refine WC.region ?_
    refine WL.quiet (Qt.loadBA 1 rfl ta31 ti31 rfl rfl) rfl rfl ?_
    refine WL.loud (.take 0 rfl (.nil)) (Ld.store ti31 rfl rfl rfl rfl rfl rfl) trivial rfl ?_
    rintro _ _ rfl
    refine WL.nil ?_
    refine WX.next ?_
    refine WC.ret ?_
    refine WX.pass_ret ?_
    rw [sortedR_leaf t (by omega)]
    refine WX.retC 0 (.use 2 rfl (fun _ h => h) (.nil)) rfl rfl rfl ta31 ti31 rfl ?_
    exact ⟨_, _, rfl, rfl⟩
  ·
    refine WC.skip ?_
    refine WX.next ?_
    refine WC.seq ?_
    refine WC.region ?_
    refine WL.quiet (Qt.assign rfl) rfl rfl ?_
    refine WL.nil ?_
    refine WX.next ?_
    refine WC.seq ?_
    refine WC.seq ?_
    refine WC.region ?_
    refine WL.quiet (Qt.assign rfl) rfl rfl ?_
    refine WL.nil ?_
    refine WX.next ?_
    refine WC.block ?_
    refine WC.turn (.nil) (nil_row (e := kTree) (t := 31)) ?_
    rintro _ rfl
    refine WC.loop (fun w0 : Nat × (Option Addr) × Nat × (List PT) => [(1, .pointer (some ⟨b_1, 0, none⟩)), (2, .pointer (some ⟨b_2, 0, none⟩)), (3, .slice w0.2.1 w0.2.2.2.length w0.2.2.1), (4, .int .i64 ((w0.1 : Nat) : Int))]) (fun w0 => [row kTree 31 w0.2.1 w0.2.2.1 w0.2.2.2, blk b_2 31 [.int .i64 0, .int .i64 0, .slice none 0 0], blk b_1 31 [.int .i64 t.kind, .int .i64 t.n, .slice A t.kids.length c], rd kTree A c t.kids]) (fun w0 => w0.1 ≤ t.kids.length ∧ w0.2.2.2 = sortedRL (t.kids.take w0.1)) (fun w0 => t.kids.length - w0.1) (0, none, 0, []) ⟨Nat.zero_le _, rfl⟩ ⟨rfl, rfl, rfl, rfl, trivial⟩ (.take 0 rfl (.take 0 rfl (.take 0 rfl (.use 0 rfl (fun _ h => h) (.nil))))) ?_
    rintro ⟨k, A1, c1, acc⟩ ⟨hk, hacc⟩
    try dsimp only at hk hacc
    show WC _ _ _ _ _ _ [(1, .pointer (some ⟨b_1, 0, none⟩)), (2, .pointer (some ⟨b_2, 0, none⟩)), (3, .slice A1 acc.length c1), (4, .int .i64 ((k : Nat) : Int))] [row kTree 31 A1 c1 acc, blk b_2 31 [.int .i64 0, .int .i64 0, .slice none 0 0], blk b_1 31 [.int .i64 t.kind, .int .i64 t.n, .slice A t.kids.length c], rd kTree A c t.kids]
    refine WC.seq ?_
    refine WC.seq ?_
    refine WC.region ?_
    refine WL.quiet (Qt.move rfl) rfl rfl ?_
    refine WL.quiet (Qt.fieldAddrB tf31_2 rfl) rfl rfl ?_
    refine WL.quiet (Qt.loadB 2 rfl ta29 rfl rfl) rfl rfl ?_
    refine WL.quiet (Qt.lenS Tryz.underlying29 rfl) rfl rfl ?_
    refine WL.quiet (Qt.lss rfl rfl) rfl rfl ?_
    refine WL.nil ?_
    refine WX.next ?_
    refine WC.condD rfl (fun hc_2 => ?_) (fun hc_2 => ?_)
    ·
      refine WC.skip ?_
      refine WX.next ?_
      refine WC.seq ?_
      refine WC.block ?_
      have hal : acc.length = k := by rw [hacc, sortedRL_map, List.length_map, List.length_take]; omega
      have hnk := nodes_kids t
      refine WC.region ?_
      refine WL.quiet (Qt.move rfl) rfl rfl ?_
      refine WL.quiet (Qt.fieldAddrB tf31_2 rfl) rfl rfl ?_
      refine WL.quiet (Qt.loadB 2 rfl ta29 rfl rfl) rfl rfl ?_
      refine WL.quiet (Qt.move rfl) rfl rfl ?_
      have hj_1 : k < t.kids.length := by omega
      refine WL.learn 3 rfl (rd_at k hj_1 (vTree _)) ?_
      rintro ⟨p_1, ⟨A_1, c_1⟩⟩ hA_1
      refine WL.quiet (Qt.indexAddrE k hA_1 Tryz.underlying29 ti31 rfl rfl (by first | assumption | omega)) rfl rfl ?_
      refine WL.quiet (Qt.loadCA (p := p_1.add (k * 3)) (o := 0) 0 rfl ta31 ti31 rfl rfl) rfl rfl ?_
      refine WL.call (.use 1 rfl (fun _ h => h) (.nil)) (Cl.func cb11 rfl) (ih (t.kids[k]) _ _ (by have := kid_size t k (by omega); omega) (ok_kid hok k (by omega)) (by have := nodes_kid t k (by omega); omega)) trivial rfl ?_
      rintro _ _ ⟨A_2, c_2, rfl, rfl⟩
      refine WL.loud (.nil) (Ld.buildSlice (zs := [.int .i64 0, .int .i64 0, .slice none 0 0]) Tryz.underlying29 ti31 rfl rfl (by kernel_rfl) rfl rfl) trivial rfl ?_
      rintro _ _ ⟨b_3, rfl, rfl⟩
      refine WL.loud (.take 4 rfl (.take 0 rfl (.use 0 rfl (fun _ h => h) (.nil)))) (Ld.append1 (e := kTree) (xs := acc) (sortedR (t.kids[k])) Tryz.underlying29 ti31 rfl (by decide) (by decide) rfl rfl (by first | omega | (simp; omega)) (fun S w h => mkTreeE (h _ (by simp)))) trivial rfl ?_
      rintro _ _ ⟨A_3, c_3, rfl, rfl⟩
      refine WL.quiet (Qt.assign rfl) rfl rfl ?_
      refine WL.nil ?_
      refine WX.block_end ?_
      refine WX.next ?_
      refine WC.region ?_
      refine WL.quiet (Qt.move rfl) rfl rfl ?_
      refine WL.quiet (Qt.add rfl rfl (by omega)) rfl rfl ?_
      refine WL.quiet (Qt.assign rfl) rfl rfl ?_
      refine WL.nil ?_
      exact WX.back (k + 1, A_3, c_3, acc ++ [sortedR t.kids[k]]) ⟨by omega, by rw [sortedRL_take _ _ (by omega), hacc]⟩ (by first | omega | (dsimp only; omega) | (simp; omega)) ⟨rfl, rfl, rfl, rfl, trivial⟩ (.take 0 rfl (.take 3 rfl (.take 3 rfl (.use 3 rfl (fun _ h => h) (.nil)))))
    ·
      refine WC.exit ?_
      refine WX.pass_exit ?_
      refine WX.pass_exit ?_
      refine WX.block_exit ?_
      refine WX.next ?_
      refine WC.seq ?_
      refine WC.seq ?_
      have hend : acc = sortedRL t.kids := by rw [hacc, List.take_of_length_le (by omega)]
      clear hacc hk
      refine WC.region ?_
      refine WL.quiet (Qt.fieldAddrB tf31_0 rfl) rfl rfl ?_
      refine WL.quiet (Qt.loadB 2 rfl ta3 rfl rfl) rfl rfl ?_
      refine WL.quiet (Qt.eql rfl rfl) rfl rfl ?_
      refine WL.nil ?_
      refine WX.next ?_
      refine WC.condD rfl (fun hc_3 => ?_) (fun hc_3 => ?_)
      ·
        refine WC.seq ?_
        refine WC.region ?_
        refine WL.quiet (Qt.move rfl) rfl rfl ?_
        refine WL.quiet (Qt.build tp31 ti31 rfl rfl rfl) rfl rfl ?_
        refine WL.loud (.take 1 rfl (.nil)) (Ld.store ti31 rfl rfl rfl rfl rfl rfl) trivial rfl ?_
        rintro _ _ rfl
        refine WL.nil ?_
        refine WX.next ?_
        refine WC.ret ?_
        refine WX.pass_ret ?_
        rw [sortedR_ser t (by omega)]
        subst hend
        refine WX.turn (.take 1 rfl (.nil)) (freeze_row) ?_
        rintro _ rfl
        refine WX.retC 1 (.use 0 rfl (fun _ h => h) (.nil)) rfl rfl rfl ta31 ti31 rfl ?_
        exact ⟨_, _, rfl, rfl⟩
      ·
        refine WC.skip ?_
        refine WX.next ?_
        have hf2 := fold_ok2 hok (by omega) (by omega) hend
        have hf3 := hf2.1
        have hf4 := hf2.2.1
        have hf5 := hf2.2.2
        refine WC.turn (.take 0 rfl (.nil)) (freeze_row) ?_
        rintro _ rfl
        refine WC.learn (Z := Unit) (Δ := fun _ => []) (φ := fun _ => acc.length ≤ c1 ∧ c1 ≤ 9223372036854775807) 0 rfl (fun S w h => ⟨(), rd_bounds h, nofacts⟩) ?_
        rintro _ ⟨hb_3, hb_4⟩
        refine WC.cut (fun w0 : Nat × (Option Addr) × Nat × (Option Addr) × Nat × (Option Addr) × Nat => [(2, .pointer (some ⟨b_2, 0, none⟩)), (3, .slice A1 acc.length c1), (5, .pointer (some ⟨w0.1, 0, none⟩))]) (fun w0 => [blk w0.1 31 [.int .i64 ((joinRT 2 (acc[0]) (acc[1])).kind), .int .i64 ((joinRT 2 (acc[0]) (acc[1])).n), .slice w0.2.1 ((joinRT 2 (acc[0]) (acc[1])).kids.length) w0.2.2.1], rd kTree w0.2.1 w0.2.2.1 ((joinRT 2 (acc[0]) (acc[1])).kids), rd kTree w0.2.2.2.1 w0.2.2.2.2.1 (acc[1].kids), rd kTree w0.2.2.2.2.2.1 w0.2.2.2.2.2.2 (acc[0].kids), rd kTree A1 c1 acc, blk b_2 31 [.int .i64 0, .int .i64 0, .slice none 0 0], blk b_1 31 [.int .i64 t.kind, .int .i64 t.n, .slice A t.kids.length c], rd kTree A c t.kids]) (fun w0 => True) ?_ ?_
        ·
          have hj_2 : 0 < acc.length := by omega
          refine WC.learn 0 rfl (rd_at 0 hj_2 (vTree _)) ?_
          rintro ⟨p_2, ⟨A_4, c_4⟩⟩ hA_2
          have hj_3 : 1 < acc.length := by omega
          refine WC.learn 2 rfl (rd_at 1 hj_3 (vTree _)) ?_
          rintro ⟨p_3, ⟨A_5, c_5⟩⟩ hA_3
          refine WC.draw (Γq := [cellsAt (p_3.add (1 * 3)) [.int .i64 (acc[1].kind), .int .i64 (acc[1].n), .slice A_5 (acc[1].kids.length) c_5], rd kTree A_5 c_5 (acc[1].kids), cellsAt (p_2.add (0 * 3)) [.int .i64 (acc[0].kind), .int .i64 (acc[0].n), .slice A_4 (acc[0].kids.length) c_4], rd kTree A_4 c_4 (acc[0].kids), rd kTree A1 c1 acc, blk b_2 31 [.int .i64 0, .int .i64 0, .slice none 0 0], blk b_1 31 [.int .i64 t.kind, .int .i64 t.n, .slice A t.kids.length c], rd kTree A c t.kids]) [0, 1, 2, 3, 4, 5, 6, 7] mixed ?_
          refine WA.take (by kernel_rfl) 0 (by decide) rfl (by kernel_rfl) (by kernel_rfl) (by kernel_rfl) (Calm.then (calm_FQ _ _)) (Qt.move rfl) trivial rfl (.use 0 rfl (fun _ h => h) (.use 1 rfl (fun _ h => h) (.use 2 rfl (fun _ h => h) (.use 3 rfl (fun _ h => h) (.use 4 rfl (fun _ h => h) (.take 5 rfl (.take 5 rfl (.use 5 rfl (fun _ h => h) (.nil))))))))) ?_
          refine WA.take (by kernel_rfl) 1 (by decide) rfl (by kernel_rfl) (by kernel_rfl) (by kernel_rfl) (Calm.then (calm_FQ _ _)) (Qt.indexAddrE 0 hA_2 Tryz.underlying29 ti31 rfl rfl (by first | assumption | omega)) trivial rfl (.use 0 rfl (fun _ h => h) (.use 1 rfl (fun _ h => h) (.use 2 rfl (fun _ h => h) (.use 3 rfl (fun _ h => h) (.use 4 rfl (fun _ h => h) (.take 5 rfl (.take 5 rfl (.use 5 rfl (fun _ h => h) (.nil))))))))) ?_
          refine WA.take (by kernel_rfl) 2 (by decide) rfl (by kernel_rfl) (by kernel_rfl) (by kernel_rfl) (Calm.then (calm_FQ _ _)) (Qt.loadCA (p := p_2.add (0 * 3)) (o := 0) 2 rfl ta31 ti31 rfl rfl) trivial rfl (.use 0 rfl (fun _ h => h) (.use 1 rfl (fun _ h => h) (.use 2 rfl (fun _ h => h) (.use 3 rfl (fun _ h => h) (.use 4 rfl (fun _ h => h) (.take 5 rfl (.take 5 rfl (.use 5 rfl (fun _ h => h) (.nil))))))))) ?_
          refine WA.take (by kernel_rfl) 3 (by decide) rfl (by kernel_rfl) (by kernel_rfl) (by kernel_rfl) (Calm.then (calm_FQ _ _)) (Qt.move rfl) trivial rfl (.use 0 rfl (fun _ h => h) (.use 1 rfl (fun _ h => h) (.use 2 rfl (fun _ h => h) (.use 3 rfl (fun _ h => h) (.use 4 rfl (fun _ h => h) (.take 5 rfl (.take 5 rfl (.use 5 rfl (fun _ h => h) (.nil))))))))) ?_
          refine WA.take (by kernel_rfl) 4 (by decide) rfl (by kernel_rfl) (by kernel_rfl) (by kernel_rfl) (Calm.then (calm_FQ _ _)) (Qt.indexAddrE 1 hA_3 Tryz.underlying29 ti31 rfl rfl (by first | assumption | omega)) trivial rfl (.use 0 rfl (fun _ h => h) (.use 1 rfl (fun _ h => h) (.use 2 rfl (fun _ h => h) (.use 3 rfl (fun _ h => h) (.use 4 rfl (fun _ h => h) (.take 5 rfl (.take 5 rfl (.use 5 rfl (fun _ h => h) (.nil))))))))) ?_
          refine WA.take (by kernel_rfl) 5 (by decide) rfl (by kernel_rfl) (by kernel_rfl) (by kernel_rfl) (Calm.then (calm_FQ _ _)) (Qt.loadCA (p := p_3.add (1 * 3)) (o := 0) 0 rfl ta31 ti31 rfl rfl) trivial rfl (.use 0 rfl (fun _ h => h) (.use 1 rfl (fun _ h => h) (.use 2 rfl (fun _ h => h) (.use 3 rfl (fun _ h => h) (.use 4 rfl (fun _ h => h) (.take 5 rfl (.take 5 rfl (.use 5 rfl (fun _ h => h) (.nil))))))))) ?_
          refine WA.two 6 7 (by kernel_rfl) ?_ ?_
          ·
            refine WO.call rfl (.use 3 rfl (fun _ h => h) (.use 1 rfl (fun _ h => h) (.nil))) (Cl.func cb25 rfl) (joinR 2 (acc[0]) (acc[1]) _ _ _ _ hf4 (by omega)) trivial rfl (by rintro _ _ ⟨A_6, c_6, rfl, rfl⟩; exact ⟨_, (.use 1 rfl (fun _ h => h) (.use 2 rfl (fun _ h => h) (.use 3 rfl (fun _ h => h) (.use 4 rfl (fun _ h => h) (.use 5 rfl (fun _ h => h) (.take 6 rfl (.take 6 rfl (.use 6 rfl (fun _ h => h) (.nil)))))))))⟩) ?_
            rintro _ _ ⟨A_6, c_6, rfl, rfl⟩
            refine WA.one 7 (by kernel_rfl) ?_
            refine WO.loud rfl (.nil) (Ld.alloc ti31 rfl) trivial rfl (by rintro _ _ ⟨b_4, rfl, rfl⟩; exact ⟨_, (.use 2 rfl (fun _ h => h) (.use 3 rfl (fun _ h => h) (.use 4 rfl (fun _ h => h) (.use 5 rfl (fun _ h => h) (.use 6 rfl (fun _ h => h) (.take 7 rfl (.take 7 rfl (.use 7 rfl (fun _ h => h) (.nil)))))))))⟩) ?_
            rintro _ _ ⟨b_4, rfl, rfl⟩
            refine WA.phase (K' := [0, 1, 2, 3, 4, 5, 6, 7, 8]) (Γq' := [rd kTree A_6 c_6 ((joinRT 2 (acc[0]) (acc[1])).kids), cellsAt (p_3.add (1 * 3)) [.int .i64 (acc[1].kind), .int .i64 (acc[1].n), .slice A_5 (acc[1].kids.length) c_5], rd kTree A_5 c_5 (acc[1].kids), cellsAt (p_2.add (0 * 3)) [.int .i64 (acc[0].kind), .int .i64 (acc[0].n), .slice A_4 (acc[0].kids.length) c_4], rd kTree A_4 c_4 (acc[0].kids), rd kTree A1 c1 acc, blk b_2 31 [.int .i64 0, .int .i64 0, .slice none 0 0], blk b_1 31 [.int .i64 t.kind, .int .i64 t.n, .slice A t.kids.length c], rd kTree A c t.kids]) (by kernel_rfl) ?_
            refine WA.one 8 (by kernel_rfl) ?_
            refine WO.loud rfl (.take 0 rfl (.nil)) (Ld.store ti31 rfl rfl rfl rfl rfl rfl) trivial rfl (by rintro _ _ rfl; exact ⟨_, (.use 1 rfl (fun _ h => h) (.use 2 rfl (fun _ h => h) (.use 3 rfl (fun _ h => h) (.use 4 rfl (fun _ h => h) (.use 5 rfl (fun _ h => h) (.use 6 rfl (fun _ h => h) (.take 7 rfl (.take 7 rfl (.use 7 rfl (fun _ h => h) (.nil))))))))))⟩) ?_
            rintro _ _ rfl
            refine WA.done (by kernel_rfl) ?_
            exact WX.cut (b_4, A_6, c_6, A_5, c_5, A_4, c_4) trivial ⟨rfl, rfl, rfl, trivial⟩ (.take 0 rfl (.use 0 rfl (fun _ h => h) (.use 2 rfl (fun _ h => h) (.use 4 rfl (fun _ h => h) (.use 5 rfl (fun _ h => h) (.take 6 rfl (.take 6 rfl (.use 6 rfl (fun _ h => h) (.nil)))))))))
          ·
            refine WO.loud rfl (.nil) (Ld.alloc ti31 rfl) trivial rfl (by rintro _ _ ⟨b_5, rfl, rfl⟩; exact ⟨_, (.use 1 rfl (fun _ h => h) (.use 2 rfl (fun _ h => h) (.use 3 rfl (fun _ h => h) (.use 4 rfl (fun _ h => h) (.use 5 rfl (fun _ h => h) (.take 6 rfl (.take 6 rfl (.use 6 rfl (fun _ h => h) (.nil)))))))))⟩) ?_
            rintro _ _ ⟨b_5, rfl, rfl⟩
            refine WA.one 6 (by kernel_rfl) ?_
            refine WO.call rfl (.use 4 rfl (fun _ h => h) (.use 2 rfl (fun _ h => h) (.nil))) (Cl.func cb25 rfl) (joinR 2 (acc[0]) (acc[1]) _ _ _ _ hf4 (by omega)) trivial rfl (by rintro _ _ ⟨A_7, c_7, rfl, rfl⟩; exact ⟨_, (.use 2 rfl (fun _ h => h) (.use 3 rfl (fun _ h => h) (.use 4 rfl (fun _ h => h) (.use 5 rfl (fun _ h => h) (.use 6 rfl (fun _ h => h) (.take 7 rfl (.take 7 rfl (.use 7 rfl (fun _ h => h) (.nil)))))))))⟩) ?_
            rintro _ _ ⟨A_7, c_7, rfl, rfl⟩
            refine WA.phase (K' := [0, 1, 2, 3, 4, 5, 6, 7, 8]) (Γq' := [rd kTree A_7 c_7 ((joinRT 2 (acc[0]) (acc[1])).kids), cellsAt (p_3.add (1 * 3)) [.int .i64 (acc[1].kind), .int .i64 (acc[1].n), .slice A_5 (acc[1].kids.length) c_5], rd kTree A_5 c_5 (acc[1].kids), cellsAt (p_2.add (0 * 3)) [.int .i64 (acc[0].kind), .int .i64 (acc[0].n), .slice A_4 (acc[0].kids.length) c_4], rd kTree A_4 c_4 (acc[0].kids), rd kTree A1 c1 acc, blk b_2 31 [.int .i64 0, .int .i64 0, .slice none 0 0], blk b_1 31 [.int .i64 t.kind, .int .i64 t.n, .slice A t.kids.length c], rd kTree A c t.kids]) (by kernel_rfl) ?_
            refine WA.one 8 (by kernel_rfl) ?_
            refine WO.loud rfl (.take 1 rfl (.nil)) (Ld.store ti31 rfl rfl rfl rfl rfl rfl) trivial rfl (by rintro _ _ rfl; exact ⟨_, (.use 1 rfl (fun _ h => h) (.use 2 rfl (fun _ h => h) (.use 3 rfl (fun _ h => h) (.use 4 rfl (fun _ h => h) (.use 5 rfl (fun _ h => h) (.use 6 rfl (fun _ h => h) (.take 7 rfl (.take 7 rfl (.use 7 rfl (fun _ h => h) (.nil))))))))))⟩) ?_
            rintro _ _ rfl
            refine WA.done (by kernel_rfl) ?_
            exact WX.cut (b_5, A_7, c_7, A_5, c_5, A_4, c_4) trivial ⟨rfl, rfl, rfl, trivial⟩ (.take 0 rfl (.use 0 rfl (fun _ h => h) (.use 2 rfl (fun _ h => h) (.use 4 rfl (fun _ h => h) (.use 5 rfl (fun _ h => h) (.take 6 rfl (.take 6 rfl (.use 6 rfl (fun _ h => h) (.nil)))))))))
        ·
          rintro ⟨b_4, A_6, c_6, A_5, c_5, A_4, c_4⟩ _
          show WC _ _ _ _ _ _ [(2, .pointer (some ⟨b_2, 0, none⟩)), (3, .slice A1 acc.length c1), (5, .pointer (some ⟨b_4, 0, none⟩))] [blk b_4 31 [.int .i64 ((joinRT 2 (acc[0]) (acc[1])).kind), .int .i64 ((joinRT 2 (acc[0]) (acc[1])).n), .slice A_6 ((joinRT 2 (acc[0]) (acc[1])).kids.length) c_6], rd kTree A_6 c_6 ((joinRT 2 (acc[0]) (acc[1])).kids), rd kTree A_5 c_5 (acc[1].kids), rd kTree A_4 c_4 (acc[0].kids), rd kTree A1 c1 acc, blk b_2 31 [.int .i64 0, .int .i64 0, .slice none 0 0], blk b_1 31 [.int .i64 t.kind, .int .i64 t.n, .slice A t.kids.length c], rd kTree A c t.kids]
          refine WC.seq ?_
          refine WC.seq ?_
          refine WC.region ?_
          refine WL.quiet (Qt.assign rfl) rfl rfl ?_
          refine WL.nil ?_
          refine WX.next ?_
          refine WC.block ?_
          refine WC.loop (fun w0 : Nat × (Option Addr) × Nat × PT => [(2, .pointer (some ⟨b_2, 0, none⟩)), (3, .slice A1 acc.length c1), (5, .pointer (some ⟨b_4, 0, none⟩)), (6, .int .i64 ((w0.1 : Nat) : Int))]) (fun w0 => [blk b_4 31 [.int .i64 w0.2.2.2.kind, .int .i64 w0.2.2.2.n, .slice w0.2.1 w0.2.2.2.kids.length w0.2.2.1], rd kTree w0.2.1 w0.2.2.1 w0.2.2.2.kids, rd kTree A_5 c_5 (acc[1].kids), rd kTree A_4 c_4 (acc[0].kids), rd kTree A1 c1 acc, blk b_2 31 [.int .i64 0, .int .i64 0, .slice none 0 0], blk b_1 31 [.int .i64 t.kind, .int .i64 t.n, .slice A t.kids.length c], rd kTree A c t.kids]) (fun w0 => 2 ≤ w0.1 ∧ w0.1 ≤ acc.length ∧ w0.2.2.2 = foldJ (acc.take w0.1)) (fun w0 => acc.length - w0.1) (2, A_6, c_6, joinRT 2 acc[0] acc[1]) ⟨Nat.le_refl _, hf2.1, (foldJ_two acc hf2.1).symm⟩ ⟨rfl, rfl, rfl, rfl, trivial⟩ (.take 0 rfl (.use 0 rfl (fun _ h => h) (.use 1 rfl (fun _ h => h) (.use 2 rfl (fun _ h => h) (.use 3 rfl (fun _ h => h) (.take 4 rfl (.take 4 rfl (.use 4 rfl (fun _ h => h) (.nil))))))))) ?_
          rintro ⟨q, A2, c2, X⟩ ⟨hq2, hq0, hX⟩
          try dsimp only at hq2 hq0 hX
          show WC _ _ _ _ _ _ [(2, .pointer (some ⟨b_2, 0, none⟩)), (3, .slice A1 acc.length c1), (5, .pointer (some ⟨b_4, 0, none⟩)), (6, .int .i64 ((q : Nat) : Int))] [blk b_4 31 [.int .i64 X.kind, .int .i64 X.n, .slice A2 X.kids.length c2], rd kTree A2 c2 X.kids, rd kTree A_5 c_5 (acc[1].kids), rd kTree A_4 c_4 (acc[0].kids), rd kTree A1 c1 acc, blk b_2 31 [.int .i64 0, .int .i64 0, .slice none 0 0], blk b_1 31 [.int .i64 t.kind, .int .i64 t.n, .slice A t.kids.length c], rd kTree A c t.kids]
          refine WC.seq ?_
          refine WC.seq ?_
          refine WC.region ?_
          refine WL.quiet (Qt.move rfl) rfl rfl ?_
          refine WL.quiet (Qt.move rfl) rfl rfl ?_
          refine WL.quiet (Qt.lenS Tryz.underlying29 rfl) rfl rfl ?_
          refine WL.quiet (Qt.lss rfl rfl) rfl rfl ?_
          refine WL.nil ?_
          refine WX.next ?_
          refine WC.condD rfl (fun hc_4 => ?_) (fun hc_4 => ?_)
          ·
            refine WC.skip ?_
            refine WX.next ?_
            refine WC.seq ?_
            refine WC.block ?_
            have hfo := fold_ok hok (by omega) (by omega) hend hq2 (by omega)
            rw [← hX] at hfo
            have hj_4 : q < acc.length := by omega
            refine WC.learn 4 rfl (rd_at q hj_4 (vTree _)) ?_
            rintro ⟨p_4, ⟨A_8, c_8⟩⟩ hA_4
            refine WC.draw (Γq := [cellsAt (p_4.add (q * 3)) [.int .i64 (acc[q].kind), .int .i64 (acc[q].n), .slice A_8 (acc[q].kids.length) c_8], rd kTree A_8 c_8 (acc[q].kids), blk b_4 31 [.int .i64 X.kind, .int .i64 X.n, .slice A2 X.kids.length c2], rd kTree A2 c2 X.kids, rd kTree A_5 c_5 (acc[1].kids), rd kTree A_4 c_4 (acc[0].kids), rd kTree A1 c1 acc, blk b_2 31 [.int .i64 0, .int .i64 0, .slice none 0 0], blk b_1 31 [.int .i64 t.kind, .int .i64 t.n, .slice A t.kids.length c], rd kTree A c t.kids]) [0, 1, 2, 3, 4, 5] mixed ?_
            refine WA.take (by kernel_rfl) 0 (by decide) rfl (by kernel_rfl) (by kernel_rfl) (by kernel_rfl) (Calm.inBlock (Calm.then (Calm.then (Calm.inBlock (Calm.then (calm_FQ _ _)))))) (Qt.loadBA 2 rfl ta31 ti31 rfl rfl) trivial rfl (.use 0 rfl (fun _ h => h) (.use 1 rfl (fun _ h => h) (.take 2 rfl (.use 2 rfl (fun _ h => h) (.use 3 rfl (fun _ h => h) (.use 4 rfl (fun _ h => h) (.use 5 rfl (fun _ h => h) (.take 6 rfl (.take 6 rfl (.use 6 rfl (fun _ h => h) (.nil))))))))))) ?_
            refine WA.take (by kernel_rfl) 1 (by decide) rfl (by kernel_rfl) (by kernel_rfl) (by kernel_rfl) (Calm.inBlock (Calm.then (Calm.then (Calm.inBlock (Calm.then (calm_FQ _ _)))))) (Qt.move rfl) trivial rfl (.use 0 rfl (fun _ h => h) (.use 1 rfl (fun _ h => h) (.take 2 rfl (.use 2 rfl (fun _ h => h) (.use 3 rfl (fun _ h => h) (.use 4 rfl (fun _ h => h) (.use 5 rfl (fun _ h => h) (.take 6 rfl (.take 6 rfl (.use 6 rfl (fun _ h => h) (.nil))))))))))) ?_
            refine WA.take (by kernel_rfl) 2 (by decide) rfl (by kernel_rfl) (by kernel_rfl) (by kernel_rfl) (Calm.inBlock (Calm.then (Calm.then (Calm.inBlock (Calm.then (calm_FQ _ _)))))) (Qt.move rfl) trivial rfl (.use 0 rfl (fun _ h => h) (.use 1 rfl (fun _ h => h) (.take 2 rfl (.use 2 rfl (fun _ h => h) (.use 3 rfl (fun _ h => h) (.use 4 rfl (fun _ h => h) (.use 5 rfl (fun _ h => h) (.take 6 rfl (.take 6 rfl (.use 6 rfl (fun _ h => h) (.nil))))))))))) ?_
            refine WA.take (by kernel_rfl) 3 (by decide) rfl (by kernel_rfl) (by kernel_rfl) (by kernel_rfl) (Calm.inBlock (Calm.then (Calm.then (Calm.inBlock (Calm.then (calm_FQ _ _)))))) (Qt.indexAddrE q hA_4 Tryz.underlying29 ti31 rfl rfl (by first | assumption | omega)) trivial rfl (.use 0 rfl (fun _ h => h) (.use 1 rfl (fun _ h => h) (.take 2 rfl (.use 2 rfl (fun _ h => h) (.use 3 rfl (fun _ h => h) (.use 4 rfl (fun _ h => h) (.use 5 rfl (fun _ h => h) (.take 6 rfl (.take 6 rfl (.use 6 rfl (fun _ h => h) (.nil))))))))))) ?_
            refine WA.take (by kernel_rfl) 4 (by decide) rfl (by kernel_rfl) (by kernel_rfl) (by kernel_rfl) (Calm.inBlock (Calm.then (Calm.then (Calm.inBlock (Calm.then (calm_FQ _ _)))))) (Qt.loadCA (p := p_4.add (q * 3)) (o := 0) 0 rfl ta31 ti31 rfl rfl) trivial rfl (.use 0 rfl (fun _ h => h) (.use 1 rfl (fun _ h => h) (.take 2 rfl (.use 2 rfl (fun _ h => h) (.use 3 rfl (fun _ h => h) (.use 4 rfl (fun _ h => h) (.use 5 rfl (fun _ h => h) (.take 6 rfl (.take 6 rfl (.use 6 rfl (fun _ h => h) (.nil))))))))))) ?_
            refine WA.one 5 (by kernel_rfl) ?_
            refine WO.call rfl (.use 3 rfl (fun _ h => h) (.use 1 rfl (fun _ h => h) (.nil))) (Cl.func cb25 rfl) (joinR 2 X (acc[q]) _ _ _ _ hfo.1 (by omega)) trivial rfl (by rintro _ _ ⟨A_9, c_9, rfl, rfl⟩; exact ⟨_, (.use 1 rfl (fun _ h => h) (.use 2 rfl (fun _ h => h) (.take 3 rfl (.use 3 rfl (fun _ h => h) (.use 4 rfl (fun _ h => h) (.use 5 rfl (fun _ h => h) (.use 6 rfl (fun _ h => h) (.take 7 rfl (.take 7 rfl (.use 7 rfl (fun _ h => h) (.nil)))))))))))⟩) ?_
            rintro _ _ ⟨A_9, c_9, rfl, rfl⟩
            refine WA.phase (K' := [0, 1, 2, 3, 4, 5, 6]) (Γq' := [rd kTree A_9 c_9 ((joinRT 2 X (acc[q])).kids), cellsAt (p_4.add (q * 3)) [.int .i64 (acc[q].kind), .int .i64 (acc[q].n), .slice A_8 (acc[q].kids.length) c_8], rd kTree A_8 c_8 (acc[q].kids), rd kTree A2 c2 X.kids, rd kTree A_5 c_5 (acc[1].kids), rd kTree A_4 c_4 (acc[0].kids), rd kTree A1 c1 acc, blk b_2 31 [.int .i64 0, .int .i64 0, .slice none 0 0], blk b_1 31 [.int .i64 t.kind, .int .i64 t.n, .slice A t.kids.length c], rd kTree A c t.kids]) (by kernel_rfl) ?_
            refine WA.one 6 (by kernel_rfl) ?_
            refine WO.loud rfl (.take 3 rfl (.nil)) (Ld.store ti31 rfl rfl rfl rfl rfl rfl) trivial rfl (by rintro _ _ rfl; exact ⟨_, (.use 1 rfl (fun _ h => h) (.use 2 rfl (fun _ h => h) (.use 3 rfl (fun _ h => h) (.use 4 rfl (fun _ h => h) (.use 5 rfl (fun _ h => h) (.use 6 rfl (fun _ h => h) (.use 7 rfl (fun _ h => h) (.take 8 rfl (.take 8 rfl (.use 8 rfl (fun _ h => h) (.nil)))))))))))⟩) ?_
            rintro _ _ rfl
            refine WA.done (by kernel_rfl) ?_
            refine WX.block_end ?_
            refine WX.next ?_
            refine WC.region ?_
            refine WL.quiet (Qt.move rfl) rfl rfl ?_
            refine WL.quiet (Qt.add rfl rfl (by omega)) rfl rfl ?_
            refine WL.quiet (Qt.assign rfl) rfl rfl ?_
            refine WL.nil ?_
            exact WX.back (q + 1, A_9, c_9, joinRT 2 X acc[q]) ⟨by omega, by omega, by rw [foldJ_take acc q hq2 (by omega), ← hX]⟩ (by first | omega | (dsimp only; omega) | (simp; omega)) ⟨rfl, rfl, rfl, rfl, trivial⟩ (.take 0 rfl (.use 0 rfl (fun _ h => h) (.use 4 rfl (fun _ h => h) (.use 5 rfl (fun _ h => h) (.use 6 rfl (fun _ h => h) (.take 7 rfl (.take 7 rfl (.use 7 rfl (fun _ h => h) (.nil)))))))))
          ·
            refine WC.exit ?_
            refine WX.pass_exit ?_
            refine WX.pass_exit ?_
            refine WX.block_exit ?_
            refine WX.next ?_
            refine WC.seq ?_
            refine WC.region ?_
            refine WL.quiet (Qt.loadBA 0 rfl ta31 ti31 rfl rfl) rfl rfl ?_
            refine WL.loud (.take 5 rfl (.nil)) (Ld.store ti31 rfl rfl rfl rfl rfl rfl) trivial rfl ?_
            rintro _ _ rfl
            refine WL.nil ?_
            refine WX.next ?_
            refine WC.ret ?_
            rw [sortedR_par t (by omega) (by omega)]
            have hX2 : X = foldJ (sortedRL t.kids) := by rw [hX, List.take_of_length_le (by omega), hend]
            subst hX2
            refine WX.retC 0 (.use 2 rfl (fun _ h => h) (.nil)) rfl rfl rfl ta31 ti31 rfl ?_
            exact ⟨_, _, rfl, rfl⟩
theorem sortedRW (t : PT) (A : Option Addr) (c : Nat) (hok : t.ok) (hnd : t.nodes ≤ 100000) : Spec μ Tryz.prog 11 #[.agg [.int .i64 t.kind, .int .i64 t.n, .slice A t.kids.length c].toArray] [rd kTree A c t.kids] fun v Δ => ∃ A1 c1, v = .agg #[.int .i64 (sortedR t).kind, .int .i64 (sortedR t).n, .slice A1 (sortedR t).kids.length c1] ∧ Δ = [rd kTree A1 c1 (sortedR t).kids] := sortedRW_ih _ t A c (Nat.lt_succ_self _) hok hnd

end Go.Proofs.YtkhmbhdlfpalkaaGreatDoor.Sep

/- A walk, printed by gen.py out of hints. -/
namespace Go.Proofs.YtkhmbhdlfpalkaaGreatDoor.Sep
open Go
variable {μ : Prop}
theorem equalFuncW (xs ys : List PT) (A B : Option Addr) (c d : Nat) (heq : ∀ (k : Nat) (h1 : k < xs.length) (h2 : k < ys.length) (A B : Option Addr) (c d : Nat), Spec μ Tryz.prog 12 #[.agg #[.int .i64 xs[k].kind, .int .i64 xs[k].n, .slice A xs[k].kids.length c], .agg #[.int .i64 ys[k].kind, .int .i64 ys[k].n, .slice B ys[k].kids.length d]] [rd kTree A c xs[k].kids, rd kTree B d ys[k].kids] fun v Δ => v = .bool (same xs[k] ys[k]) ∧ Δ = []) : Spec μ Tryz.prog 26 #[.slice A xs.length c, .slice B ys.length d, .func (.func 12) #[] #[]] [rd kTree A c xs, rd kTree B d ys] fun v Δ => v = .bool (same xs ys) ∧ Δ = [] := by
  refine Spec.of_body (n := 32) Tryz.func26 rfl rfl rfl fun w0 S0 O0 => ?_
  show WC _ _ _ _ _ _ [(0, .slice A xs.length c), (1, .slice B ys.length d), (2, .func (.func 12) #[] #[])] [rd kTree A c xs, rd kTree B d ys]
  refine WC.learn (Z := Unit) (Δ := fun _ => []) (φ := fun _ => xs.length ≤ c ∧ c ≤ 9223372036854775807) 0 rfl (fun S w h => ⟨(), rd_bounds h, nofacts⟩) ?_
  rintro _ ⟨hb_1, hb_2⟩
  refine WC.learn (Z := Unit) (Δ := fun _ => []) (φ := fun _ => ys.length ≤ d ∧ d ≤ 9223372036854775807) 1 rfl (fun S w h => ⟨(), rd_bounds h, nofacts⟩) ?_
  rintro _ ⟨hb_3, hb_4⟩
  refine WC.seq ?_
  refine WC.region ?_
  refine WL.quiet (Qt.assign rfl) rfl rfl ?_
  refine WL.nil ?_
  refine WX.next ?_
  refine WC.seq ?_
  refine WC.seq ?_
  refine WC.region ?_
  refine WL.quiet (Qt.move rfl) rfl rfl ?_
  refine WL.quiet (Qt.lenS Tryz.underlying22 rfl) rfl rfl ?_
  refine WL.quiet (Qt.move rfl) rfl rfl ?_
  refine WL.quiet (Qt.lenS Tryz.underlying22 rfl) rfl rfl ?_
  refine WL.quiet (Qt.neq rfl rfl) rfl rfl ?_
  refine WL.nil ?_
  refine WX.next ?_
  refine WC.condD rfl (fun hc_1 => ?_) (fun hc_1 => ?_)
  ·
    refine WC.seq ?_
    refine WC.region ?_
    refine WL.quiet (Qt.assign rfl) rfl rfl ?_
    refine WL.nil ?_
    refine WX.next ?_
    refine WC.ret ?_
    refine WX.pass_ret ?_
    refine WX.ret1 (.nil) rfl rfl ?_
    exact ⟨by rw [same_not]; exact not_of_length (by omega), rfl⟩
  ·
    refine WC.skip ?_
    refine WX.next ?_
    refine WC.seq ?_
    refine WC.seq ?_
    refine WC.region ?_
    refine WL.quiet (Qt.move rfl) rfl rfl ?_
    refine WL.quiet (Qt.lenS Tryz.underlying22 rfl) rfl rfl ?_
    refine WL.quiet (Qt.move rfl) rfl rfl ?_
    refine WL.nil ?_
    refine WX.next ?_
    refine WC.block ?_
    refine WC.loop (fun w0 : Nat => [(1, .slice B ys.length d), (2, .func (.func 12) #[] #[]), (6, .bool false), (15, .slice A xs.length c), (16, .int .i64 ((xs.length : Nat) : Int)), (17, .int .i64 ((w0 : Nat) : Int))]) (fun w0 => [rd kTree A c xs, rd kTree B d ys]) (fun w0 => w0 ≤ xs.length ∧ xs.take w0 = ys.take w0) (fun w0 => xs.length - w0) 0 ⟨Nat.zero_le _, rfl⟩ ⟨rfl, rfl, rfl, rfl, rfl, rfl, trivial⟩ (.use 0 rfl (fun _ h => h) (.use 1 rfl (fun _ h => h) (.nil))) ?_
    rintro k ⟨hk, hkk⟩
    try dsimp only at hk hkk
    show WC _ _ _ _ _ _ [(1, .slice B ys.length d), (2, .func (.func 12) #[] #[]), (6, .bool false), (15, .slice A xs.length c), (16, .int .i64 ((xs.length : Nat) : Int)), (17, .int .i64 ((k : Nat) : Int))] [rd kTree A c xs, rd kTree B d ys]
    refine WC.seq ?_
    refine WC.region ?_
    refine WL.quiet (Qt.lss rfl rfl) rfl rfl ?_
    refine WL.nil ?_
    refine WX.next ?_
    refine WC.seq ?_
    refine WC.condD rfl (fun hc_2 => ?_) (fun hc_2 => ?_)
    ·
      refine WC.skip ?_
      refine WX.next ?_
      refine WC.seq ?_
      refine WC.block ?_
      refine WC.seq ?_
      refine WC.region ?_
      refine WL.quiet (Qt.move rfl) rfl rfl ?_
      have hj_1 : k < xs.length := by omega
      refine WL.learn 0 rfl (rd_at k hj_1 (vTree _)) ?_
      rintro ⟨p_1, ⟨A_1, c_1⟩⟩ hA_1
      refine WL.quiet (Qt.indexAddrE k hA_1 Tryz.underlying22 ti24 rfl rfl (by first | assumption | omega)) rfl rfl ?_
      refine WL.quiet (Qt.loadCA (p := p_1.add (k * 3)) (o := 0) 0 rfl ta24 ti24 rfl rfl) rfl rfl ?_
      refine WL.loud (.nil) (Ld.alloc ti24 rfl) trivial rfl ?_
      rintro _ _ ⟨b_1, rfl, rfl⟩
      refine WL.quiet (Qt.assign rfl) rfl rfl ?_
      refine WL.loud (.take 0 rfl (.nil)) (Ld.store ti24 rfl rfl rfl rfl rfl rfl) trivial rfl ?_
      rintro _ _ rfl
      refine WL.nil ?_
      refine WX.next ?_
      refine WC.seq ?_
      refine WC.region ?_
      refine WL.quiet (Qt.move rfl) rfl rfl ?_
      refine WL.quiet (Qt.move rfl) rfl rfl ?_
      have hj_2 : k < ys.length := by omega
      refine WL.learn 4 rfl (rd_at k hj_2 (vTree _)) ?_
      rintro ⟨p_2, ⟨A_2, c_2⟩⟩ hA_2
      refine WL.quiet (Qt.indexAddrE k hA_2 Tryz.underlying22 ti24 rfl rfl (by first | assumption | omega)) rfl rfl ?_
      refine WL.quiet (Qt.loadCA (p := p_2.add (k * 3)) (o := 0) 0 rfl ta24 ti24 rfl rfl) rfl rfl ?_
      refine WL.loud (.nil) (Ld.alloc ti24 rfl) trivial rfl ?_
      rintro _ _ ⟨b_2, rfl, rfl⟩
      refine WL.loud (.take 0 rfl (.nil)) (Ld.store ti24 rfl rfl rfl rfl rfl rfl) trivial rfl ?_
      rintro _ _ rfl
      refine WL.nil ?_
      refine WX.next ?_
      refine WC.seq ?_
      refine WC.region ?_
      refine WL.quiet (Qt.move rfl) rfl rfl ?_
      refine WL.quiet (Qt.loadBA 3 rfl ta24 ti24 rfl rfl) rfl rfl ?_
      refine WL.quiet (Qt.loadBA 0 rfl ta24 ti24 rfl rfl) rfl rfl ?_
      refine WL.call (.use 5 rfl (fun _ h => h) (.use 2 rfl (fun _ h => h) (.nil))) (Cl.val cb12 rfl rfl) (heq k _ _ _ _ _ _) trivial rfl ?_
      rintro _ _ ⟨rfl, rfl⟩
      refine WL.quiet (Qt.not rfl) rfl rfl ?_
      refine WL.nil ?_
      refine WX.next ?_
      refine WC.cond rfl (fun hc_3 => ?_) (fun hc_3 => ?_)
      ·
        refine WC.seq ?_
        refine WC.region ?_
        refine WL.quiet (Qt.assign rfl) rfl rfl ?_
        refine WL.nil ?_
        refine WX.next ?_
        refine WC.ret ?_
        refine WX.block_ret ?_
        refine WX.pass_ret ?_
        refine WX.pass_ret ?_
        refine WX.block_ret ?_
        refine WX.pass_ret ?_
        refine WX.ret1 (.nil) rfl rfl ?_
        exact ⟨by rw [same_not]; exact not_of_get (by omega) (by omega) (fun h => by simp [h, same_self] at hc_3), rfl⟩
      ·
        refine WC.skip ?_
        refine WX.block_end ?_
        refine WX.next ?_
        refine WC.region ?_
        refine WL.quiet (Qt.add rfl rfl (by omega)) rfl rfl ?_
        refine WL.quiet (Qt.move rfl) rfl rfl ?_
        refine WL.nil ?_
        exact WX.back (k + 1) ⟨by omega, take_succ_eq hkk (by omega) (by omega) ((same_iff _ _).1 (by simpa using hc_3))⟩ (by first | omega | (dsimp only; omega) | (simp; omega)) ⟨rfl, rfl, rfl, rfl, rfl, rfl, trivial⟩ (.use 6 rfl (fun _ h => h) (.use 7 rfl (fun _ h => h) (.nil)))
    ·
      refine WC.exit ?_
      refine WX.pass_exit ?_
      refine WX.pass_exit ?_
      refine WX.block_exit ?_
      refine WX.next ?_
      refine WC.seq ?_
      refine WC.region ?_
      refine WL.quiet (Qt.assign rfl) rfl rfl ?_
      refine WL.nil ?_
      refine WX.next ?_
      refine WC.ret ?_
      refine WX.ret1 (.nil) rfl rfl ?_
      exact ⟨by rw [(same_iff xs ys).2]; exact take_all_eq hkk (by omega) (by omega), rfl⟩

end Go.Proofs.YtkhmbhdlfpalkaaGreatDoor.Sep

/- A walk, printed by gen.py out of hints. -/
namespace Go.Proofs.YtkhmbhdlfpalkaaGreatDoor.Sep
open Go
variable {μ : Prop}
theorem equalW_ih (m : Nat) : ∀ (a b : PT) (A B : Option Addr) (c d : Nat), SizeOf.sizeOf a < m → Spec μ Tryz.prog 12 #[.agg [.int .i64 a.kind, .int .i64 a.n, .slice A a.kids.length c].toArray, .agg [.int .i64 b.kind, .int .i64 b.n, .slice B b.kids.length d].toArray] [rd kTree A c a.kids, rd kTree B d b.kids] fun v Δ => v = .bool (same a b) ∧ Δ = [] := by
  induction m with
  | zero => exact fun a b A B c d h => absurd h (Nat.not_lt_zero _)
  | succ m ih =>
  intro a b A B c d hsz 
  refine Spec.of_body (n := 24) Tryz.func12 rfl rfl rfl fun w0 S0 O0 => ?_
  show WC _ _ _ _ _ _ [(0, .agg [.int .i64 a.kind, .int .i64 a.n, .slice A a.kids.length c].toArray), (1, .agg [.int .i64 b.kind, .int .i64 b.n, .slice B b.kids.length d].toArray)] [rd kTree A c a.kids, rd kTree B d b.kids]
  refine WC.seq ?_
  refine WC.region ?_
  refine WL.loud (.nil) (Ld.box rfl rfl) trivial rfl ?_
  rintro _ _ ⟨b_1, rfl, rfl⟩
  refine WL.loud (.nil) (Ld.box rfl rfl) trivial rfl ?_
  rintro _ _ ⟨b_2, rfl, rfl⟩
  refine WL.quiet (Qt.assign rfl) rfl rfl ?_
  refine WL.nil ?_
  refine WX.next ?_
  refine WC.cut (fun _ : Unit => [(4, .bool (decide ((((a.kind : Int) = b.kind) ∧ ((a.n : Int) = b.n)) ∧ (same a.kids b.kids = true))))]) (fun _ => [blk b_2 24 [.int .i64 b.kind, .int .i64 b.n, .slice B b.kids.length d], blk b_1 24 [.int .i64 a.kind, .int .i64 a.n, .slice A a.kids.length c], rd kTree A c a.kids, rd kTree B d b.kids]) (fun _ => True) ?_ ?_
  ·
    refine WC.region ?_
    refine WL.quiet (Qt.fieldAddrB tf24_0 rfl) rfl rfl ?_
    refine WL.quiet (Qt.loadB 1 rfl ta3 rfl rfl) rfl rfl ?_
    refine WL.quiet (Qt.fieldAddrB tf24_0 rfl) rfl rfl ?_
    refine WL.quiet (Qt.loadB 0 rfl ta3 rfl rfl) rfl rfl ?_
    refine WL.quiet (Qt.eql rfl rfl) rfl rfl ?_
    refine WL.quiet (Qt.move rfl) rfl rfl ?_
    refine WL.splitD 10 rfl rfl (fun hg_1 => ?_) (fun hg_1 => ?_)
    ·
      refine WL.quietG 5 true rfl 10 rfl rfl (Qt.fieldAddrB tf24_1 rfl) rfl ?_
      refine WL.quietG 5 true rfl 10 rfl rfl (Qt.loadB 1 rfl ta3 rfl rfl) rfl ?_
      refine WL.quietG 5 true rfl 10 rfl rfl (Qt.fieldAddrB tf24_1 rfl) rfl ?_
      refine WL.quietG 5 true rfl 10 rfl rfl (Qt.loadB 0 rfl ta3 rfl rfl) rfl ?_
      refine WL.quietG 5 true rfl 10 rfl rfl (Qt.eql rfl rfl) rfl ?_
      refine WL.quiet (Qt.pickT rfl rfl) rfl rfl ?_
      refine WL.quiet (Qt.move rfl) rfl rfl ?_
      refine WL.splitD 17 rfl rfl (fun hg_2 => ?_) (fun hg_2 => ?_)
      ·
        refine WL.quietG 12 true rfl 17 rfl rfl (Qt.fieldAddrB tf24_2 rfl) rfl ?_
        refine WL.quietG 12 true rfl 17 rfl rfl (Qt.loadB 1 rfl ta22 rfl rfl) rfl ?_
        refine WL.quietG 12 true rfl 17 rfl rfl (Qt.fieldAddrB tf24_2 rfl) rfl ?_
        refine WL.quietG 12 true rfl 17 rfl rfl (Qt.loadB 0 rfl ta22 rfl rfl) rfl ?_
        refine WL.call (.use 2 rfl (fun _ h => h) (.use 3 rfl (fun _ h => h) (.nil))) (Cl.func cb26 rfl) (equalFuncW a.kids b.kids _ _ _ _ (fun k h1 h2 A B c d => ih _ _ _ _ _ _ (by have := kid_size a k h1; omega))) ⟨17, rfl, rfl⟩ rfl ?_
        rintro _ _ ⟨rfl, rfl⟩
        refine WL.quiet (Qt.pickT rfl rfl) rfl rfl ?_
        refine WL.quiet (Qt.assign rfl) rfl rfl ?_
        refine WL.nil ?_
        exact WX.cut () trivial ⟨(by rw [show decide ((((a.kind : Int) = b.kind) ∧ ((a.n : Int) = b.n)) ∧ (same a.kids b.kids = true)) = same a.kids b.kids from by first | (simp [hg_1, hg_2]; done) | exact decide_eq_decide.2 (by omega) | exact decide_eq_true (by omega) | exact decide_eq_false (by omega) | (simp [hg_1, hg_2] <;> omega)]; rfl), trivial⟩ (.take 0 rfl (.take 0 rfl (.use 0 rfl (fun _ h => h) (.use 1 rfl (fun _ h => h) (.nil)))))
      ·
        refine WL.skipG 12 true false rfl 17 rfl rfl rfl rfl ?_
        refine WL.skipG 12 true false rfl 17 rfl rfl rfl rfl ?_
        refine WL.skipG 12 true false rfl 17 rfl rfl rfl rfl ?_
        refine WL.skipG 12 true false rfl 17 rfl rfl rfl rfl ?_
        refine WL.skipG 12 true false rfl 17 rfl rfl rfl rfl ?_
        refine WL.quiet (Qt.pickF rfl rfl) rfl rfl ?_
        refine WL.quiet (Qt.assign rfl) rfl rfl ?_
        refine WL.nil ?_
        exact WX.cut () trivial ⟨(by rw [show decide ((((a.kind : Int) = b.kind) ∧ ((a.n : Int) = b.n)) ∧ (same a.kids b.kids = true)) = false from by first | (simp [hg_1, hg_2]; done) | exact decide_eq_decide.2 (by omega) | exact decide_eq_true (by omega) | exact decide_eq_false (by omega) | (simp [hg_1, hg_2] <;> omega)]; rfl), trivial⟩ (.take 0 rfl (.take 0 rfl (.use 0 rfl (fun _ h => h) (.use 1 rfl (fun _ h => h) (.nil)))))
    ·
      refine WL.skipG 5 true false rfl 10 rfl rfl rfl rfl ?_
      refine WL.skipG 5 true false rfl 10 rfl rfl rfl rfl ?_
      refine WL.skipG 5 true false rfl 10 rfl rfl rfl rfl ?_
      refine WL.skipG 5 true false rfl 10 rfl rfl rfl rfl ?_
      refine WL.skipG 5 true false rfl 10 rfl rfl rfl rfl ?_
      refine WL.quiet (Qt.pickF rfl rfl) rfl rfl ?_
      refine WL.quiet (Qt.move rfl) rfl rfl ?_
      refine WL.skipG 12 true false rfl 17 rfl rfl rfl rfl ?_
      refine WL.skipG 12 true false rfl 17 rfl rfl rfl rfl ?_
      refine WL.skipG 12 true false rfl 17 rfl rfl rfl rfl ?_
      refine WL.skipG 12 true false rfl 17 rfl rfl rfl rfl ?_
      refine WL.skipG 12 true false rfl 17 rfl rfl rfl rfl ?_
      refine WL.quiet (Qt.pickF rfl rfl) rfl rfl ?_
      refine WL.quiet (Qt.assign rfl) rfl rfl ?_
      refine WL.nil ?_
      exact WX.cut () trivial ⟨(by rw [show decide ((((a.kind : Int) = b.kind) ∧ ((a.n : Int) = b.n)) ∧ (same a.kids b.kids = true)) = false from by first | (simp [hg_1]; done) | exact decide_eq_decide.2 (by omega) | exact decide_eq_true (by omega) | exact decide_eq_false (by omega) | (simp [hg_1] <;> omega)]; rfl), trivial⟩ (.take 0 rfl (.take 0 rfl (.use 0 rfl (fun _ h => h) (.use 1 rfl (fun _ h => h) (.nil)))))
  ·
    intro _ _
    show WC _ _ _ _ _ _ [(4, .bool (decide ((((a.kind : Int) = b.kind) ∧ ((a.n : Int) = b.n)) ∧ (same a.kids b.kids = true))))] [blk b_2 24 [.int .i64 b.kind, .int .i64 b.n, .slice B b.kids.length d], blk b_1 24 [.int .i64 a.kind, .int .i64 a.n, .slice A a.kids.length c], rd kTree A c a.kids, rd kTree B d b.kids]
    refine WC.ret ?_
    refine WX.ret1 (.nil) rfl rfl ?_
    refine ⟨congrArg Value.bool (Bool.eq_iff_iff.2 ?_), rfl⟩
    simp only [decide_eq_true_eq, same_iff]
    exact ⟨fun h => PT.ext h.1.1 h.1.2 h.2, fun h => by subst h; exact ⟨⟨rfl, rfl⟩, rfl⟩⟩
theorem equalW (a b : PT) (A B : Option Addr) (c d : Nat)  : Spec μ Tryz.prog 12 #[.agg [.int .i64 a.kind, .int .i64 a.n, .slice A a.kids.length c].toArray, .agg [.int .i64 b.kind, .int .i64 b.n, .slice B b.kids.length d].toArray] [rd kTree A c a.kids, rd kTree B d b.kids] fun v Δ => v = .bool (same a b) ∧ Δ = [] := equalW_ih _ a b A B c d (Nat.lt_succ_self _) 

end Go.Proofs.YtkhmbhdlfpalkaaGreatDoor.Sep

/- A walk, printed by gen.py out of hints. -/
namespace Go.Proofs.YtkhmbhdlfpalkaaGreatDoor.Sep
open Go
variable {μ : Prop}
theorem equalR_ih (m : Nat) : ∀ (a b : PT) (A B : Option Addr) (c d : Nat), SizeOf.sizeOf a < m → Spec μ Tryz.prog 13 #[.agg [.int .i64 a.kind, .int .i64 a.n, .slice A a.kids.length c].toArray, .agg [.int .i64 b.kind, .int .i64 b.n, .slice B b.kids.length d].toArray] [rd kTree A c a.kids, rd kTree B d b.kids] fun v Δ => v = .bool (same a b) ∧ Δ = [] := by
  induction m with
  | zero => exact fun a b A B c d h => absurd h (Nat.not_lt_zero _)
  | succ m ih =>
  intro a b A B c d hsz 
  refine Spec.of_body (n := 46) Tryz.func13 rfl rfl rfl fun w0 S0 O0 => ?_
  show WC _ _ _ _ _ _ [(0, .agg [.int .i64 a.kind, .int .i64 a.n, .slice A a.kids.length c].toArray), (1, .agg [.int .i64 b.kind, .int .i64 b.n, .slice B b.kids.length d].toArray)] [rd kTree A c a.kids, rd kTree B d b.kids]
  refine WC.learn (Z := Unit) (Δ := fun _ => []) (φ := fun _ => a.kids.length ≤ c ∧ c ≤ 9223372036854775807) 0 rfl (fun S w h => ⟨(), rd_bounds h, nofacts⟩) ?_
  rintro _ ⟨hb_1, hb_2⟩
  refine WC.learn (Z := Unit) (Δ := fun _ => []) (φ := fun _ => b.kids.length ≤ d ∧ d ≤ 9223372036854775807) 1 rfl (fun S w h => ⟨(), rd_bounds h, nofacts⟩) ?_
  rintro _ ⟨hb_3, hb_4⟩
  refine WC.seq ?_
  refine WC.region ?_
  refine WL.loud (.nil) (Ld.box rfl rfl) trivial rfl ?_
  rintro _ _ ⟨b_1, rfl, rfl⟩
  refine WL.loud (.nil) (Ld.box rfl rfl) trivial rfl ?_
  rintro _ _ ⟨b_2, rfl, rfl⟩
  refine WL.quiet (Qt.assign rfl) rfl rfl ?_
  refine WL.nil ?_
  refine WX.next ?_
  refine WC.seq ?_
  refine WC.cut (fun _ : Unit => [(2, .pointer (some ⟨b_1, 0, none⟩)), (3, .pointer (some ⟨b_2, 0, none⟩)), (4, .bool false), (26, .bool (decide ((((a.kind : Int) ≠ b.kind) ∨ ((a.n : Int) ≠ b.n)) ∨ (((a.kids.length : Nat) : Int) ≠ ((b.kids.length : Nat) : Int)))))]) (fun _ => [blk b_2 31 [.int .i64 b.kind, .int .i64 b.n, .slice B b.kids.length d], blk b_1 31 [.int .i64 a.kind, .int .i64 a.n, .slice A a.kids.length c], rd kTree A c a.kids, rd kTree B d b.kids]) (fun _ => True) ?_ ?_
  ·
    refine WC.region ?_
    refine WL.quiet (Qt.fieldAddrB tf31_0 rfl) rfl rfl ?_
    refine WL.quiet (Qt.loadB 1 rfl ta3 rfl rfl) rfl rfl ?_
    refine WL.quiet (Qt.fieldAddrB tf31_0 rfl) rfl rfl ?_
    refine WL.quiet (Qt.loadB 0 rfl ta3 rfl rfl) rfl rfl ?_
    refine WL.quiet (Qt.neq rfl rfl) rfl rfl ?_
    refine WL.quiet (Qt.move rfl) rfl rfl ?_
    refine WL.splitD 11 rfl rfl (fun hg_1 => ?_) (fun hg_1 => ?_)
    ·
      refine WL.skipG 5 false true rfl 11 rfl rfl rfl rfl ?_
      refine WL.skipG 5 false true rfl 11 rfl rfl rfl rfl ?_
      refine WL.skipG 5 false true rfl 11 rfl rfl rfl rfl ?_
      refine WL.skipG 5 false true rfl 11 rfl rfl rfl rfl ?_
      refine WL.skipG 5 false true rfl 11 rfl rfl rfl rfl ?_
      refine WL.quiet (Qt.pickT rfl rfl) rfl rfl ?_
      refine WL.quiet (Qt.move rfl) rfl rfl ?_
      refine WL.skipG 12 false true rfl 18 rfl rfl rfl rfl ?_
      refine WL.skipG 12 false true rfl 18 rfl rfl rfl rfl ?_
      refine WL.skipG 12 false true rfl 18 rfl rfl rfl rfl ?_
      refine WL.skipG 12 false true rfl 18 rfl rfl rfl rfl ?_
      refine WL.skipG 12 false true rfl 18 rfl rfl rfl rfl ?_
      refine WL.skipG 12 false true rfl 18 rfl rfl rfl rfl ?_
      refine WL.skipG 12 false true rfl 18 rfl rfl rfl rfl ?_
      refine WL.quiet (Qt.pickT rfl rfl) rfl rfl ?_
      refine WL.nil ?_
      exact WX.cut () trivial ⟨rfl, rfl, rfl, (by rw [show decide ((((a.kind : Int) ≠ b.kind) ∨ ((a.n : Int) ≠ b.n)) ∨ (((a.kids.length : Nat) : Int) ≠ ((b.kids.length : Nat) : Int))) = true from by first | (simp [hg_1]; done) | exact decide_eq_decide.2 (by omega) | exact decide_eq_true (by omega) | exact decide_eq_false (by omega) | (simp [hg_1] <;> omega)]; rfl), trivial⟩ (.take 0 rfl (.take 0 rfl (.use 0 rfl (fun _ h => h) (.use 1 rfl (fun _ h => h) (.nil)))))
    ·
      refine WL.quietG 5 false rfl 11 rfl rfl (Qt.fieldAddrB tf31_1 rfl) rfl ?_
      refine WL.quietG 5 false rfl 11 rfl rfl (Qt.loadB 1 rfl ta3 rfl rfl) rfl ?_
      refine WL.quietG 5 false rfl 11 rfl rfl (Qt.fieldAddrB tf31_1 rfl) rfl ?_
      refine WL.quietG 5 false rfl 11 rfl rfl (Qt.loadB 0 rfl ta3 rfl rfl) rfl ?_
      refine WL.quietG 5 false rfl 11 rfl rfl (Qt.neq rfl rfl) rfl ?_
      refine WL.quiet (Qt.pickF rfl rfl) rfl rfl ?_
      refine WL.quiet (Qt.move rfl) rfl rfl ?_
      refine WL.splitD 18 rfl rfl (fun hg_2 => ?_) (fun hg_2 => ?_)
      ·
        refine WL.skipG 12 false true rfl 18 rfl rfl rfl rfl ?_
        refine WL.skipG 12 false true rfl 18 rfl rfl rfl rfl ?_
        refine WL.skipG 12 false true rfl 18 rfl rfl rfl rfl ?_
        refine WL.skipG 12 false true rfl 18 rfl rfl rfl rfl ?_
        refine WL.skipG 12 false true rfl 18 rfl rfl rfl rfl ?_
        refine WL.skipG 12 false true rfl 18 rfl rfl rfl rfl ?_
        refine WL.skipG 12 false true rfl 18 rfl rfl rfl rfl ?_
        refine WL.quiet (Qt.pickT rfl rfl) rfl rfl ?_
        refine WL.nil ?_
        exact WX.cut () trivial ⟨rfl, rfl, rfl, (by rw [show decide ((((a.kind : Int) ≠ b.kind) ∨ ((a.n : Int) ≠ b.n)) ∨ (((a.kids.length : Nat) : Int) ≠ ((b.kids.length : Nat) : Int))) = true from by first | (simp [hg_1, hg_2]; done) | exact decide_eq_decide.2 (by omega) | exact decide_eq_true (by omega) | exact decide_eq_false (by omega) | (simp [hg_1, hg_2] <;> omega)]; rfl), trivial⟩ (.take 0 rfl (.take 0 rfl (.use 0 rfl (fun _ h => h) (.use 1 rfl (fun _ h => h) (.nil)))))
      ·
        refine WL.quietG 12 false rfl 18 rfl rfl (Qt.fieldAddrB tf31_2 rfl) rfl ?_
        refine WL.quietG 12 false rfl 18 rfl rfl (Qt.loadB 1 rfl ta29 rfl rfl) rfl ?_
        refine WL.quietG 12 false rfl 18 rfl rfl (Qt.lenS Tryz.underlying29 rfl) rfl ?_
        refine WL.quietG 12 false rfl 18 rfl rfl (Qt.fieldAddrB tf31_2 rfl) rfl ?_
        refine WL.quietG 12 false rfl 18 rfl rfl (Qt.loadB 0 rfl ta29 rfl rfl) rfl ?_
        refine WL.quietG 12 false rfl 18 rfl rfl (Qt.lenS Tryz.underlying29 rfl) rfl ?_
        refine WL.quietG 12 false rfl 18 rfl rfl (Qt.neq rfl rfl) rfl ?_
        refine WL.quiet (Qt.pickF rfl rfl) rfl rfl ?_
        refine WL.nil ?_
        exact WX.cut () trivial ⟨rfl, rfl, rfl, (by rw [show decide ((((a.kind : Int) ≠ b.kind) ∨ ((a.n : Int) ≠ b.n)) ∨ (((a.kids.length : Nat) : Int) ≠ ((b.kids.length : Nat) : Int))) = (decide (((a.kids.length : Nat) : Int) ≠ ((b.kids.length : Nat) : Int))) from by first | (simp [hg_1, hg_2]; done) | exact decide_eq_decide.2 (by omega) | exact decide_eq_true (by omega) | exact decide_eq_false (by omega) | (simp [hg_1, hg_2] <;> omega)]; rfl), trivial⟩ (.take 0 rfl (.take 0 rfl (.use 0 rfl (fun _ h => h) (.use 1 rfl (fun _ h => h) (.nil)))))
  ·
    intro _ _
    show WC _ _ _ _ _ _ [(2, .pointer (some ⟨b_1, 0, none⟩)), (3, .pointer (some ⟨b_2, 0, none⟩)), (4, .bool false), (26, .bool (decide ((((a.kind : Int) ≠ b.kind) ∨ ((a.n : Int) ≠ b.n)) ∨ (((a.kids.length : Nat) : Int) ≠ ((b.kids.length : Nat) : Int)))))] [blk b_2 31 [.int .i64 b.kind, .int .i64 b.n, .slice B b.kids.length d], blk b_1 31 [.int .i64 a.kind, .int .i64 a.n, .slice A a.kids.length c], rd kTree A c a.kids, rd kTree B d b.kids]
    refine WC.condD rfl (fun hc_1 => ?_) (fun hc_1 => ?_)
    ·
      refine WC.seq ?_
      refine WC.region ?_
      refine WL.quiet (Qt.assign rfl) rfl rfl ?_
      refine WL.nil ?_
      refine WX.next ?_
      refine WC.ret ?_
      refine WX.pass_ret ?_
      refine WX.ret1 (.nil) rfl rfl ?_
      exact ⟨by rw [same_not]; intro h; subst h; omega, rfl⟩
    ·
      refine WC.skip ?_
      refine WX.next ?_
      refine WC.seq ?_
      refine WC.seq ?_
      refine WC.region ?_
      refine WL.quiet (Qt.assign rfl) rfl rfl ?_
      refine WL.nil ?_
      refine WX.next ?_
      refine WC.block ?_
      refine WC.loop (fun w0 : Nat => [(2, .pointer (some ⟨b_1, 0, none⟩)), (3, .pointer (some ⟨b_2, 0, none⟩)), (4, .bool false), (5, .int .i64 ((w0 : Nat) : Int))]) (fun w0 => [blk b_2 31 [.int .i64 b.kind, .int .i64 b.n, .slice B b.kids.length d], blk b_1 31 [.int .i64 a.kind, .int .i64 a.n, .slice A a.kids.length c], rd kTree A c a.kids, rd kTree B d b.kids]) (fun w0 => w0 ≤ a.kids.length ∧ a.kids.take w0 = b.kids.take w0) (fun w0 => a.kids.length - w0) 0 ⟨Nat.zero_le _, rfl⟩ ⟨rfl, rfl, rfl, rfl, trivial⟩ (.take 0 rfl (.take 0 rfl (.use 0 rfl (fun _ h => h) (.use 1 rfl (fun _ h => h) (.nil))))) ?_
      rintro k ⟨hk, hkk⟩
      try dsimp only at hk hkk
      show WC _ _ _ _ _ _ [(2, .pointer (some ⟨b_1, 0, none⟩)), (3, .pointer (some ⟨b_2, 0, none⟩)), (4, .bool false), (5, .int .i64 ((k : Nat) : Int))] [blk b_2 31 [.int .i64 b.kind, .int .i64 b.n, .slice B b.kids.length d], blk b_1 31 [.int .i64 a.kind, .int .i64 a.n, .slice A a.kids.length c], rd kTree A c a.kids, rd kTree B d b.kids]
      refine WC.seq ?_
      refine WC.seq ?_
      refine WC.region ?_
      refine WL.quiet (Qt.move rfl) rfl rfl ?_
      refine WL.quiet (Qt.fieldAddrB tf31_2 rfl) rfl rfl ?_
      refine WL.quiet (Qt.loadB 1 rfl ta29 rfl rfl) rfl rfl ?_
      refine WL.quiet (Qt.lenS Tryz.underlying29 rfl) rfl rfl ?_
      refine WL.quiet (Qt.lss rfl rfl) rfl rfl ?_
      refine WL.nil ?_
      refine WX.next ?_
      refine WC.condD rfl (fun hc_2 => ?_) (fun hc_2 => ?_)
      ·
        refine WC.skip ?_
        refine WX.next ?_
        refine WC.seq ?_
        refine WC.block ?_
        refine WC.seq ?_
        have hj_1 : k < a.kids.length := by omega
        refine WC.learn 2 rfl (rd_at k hj_1 (vTree _)) ?_
        rintro ⟨p_1, ⟨A_1, c_1⟩⟩ hA_1
        have hj_2 : k < b.kids.length := by omega
        refine WC.learn 5 rfl (rd_at k hj_2 (vTree _)) ?_
        rintro ⟨p_2, ⟨A_2, c_2⟩⟩ hA_2
        refine WC.draw (Γq := [cellsAt (p_2.add (k * 3)) [.int .i64 (b.kids[k].kind), .int .i64 (b.kids[k].n), .slice A_2 (b.kids[k].kids.length) c_2], rd kTree A_2 c_2 (b.kids[k].kids), cellsAt (p_1.add (k * 3)) [.int .i64 (a.kids[k].kind), .int .i64 (a.kids[k].n), .slice A_1 (a.kids[k].kids.length) c_1], rd kTree A_1 c_1 (a.kids[k].kids), blk b_2 31 [.int .i64 b.kind, .int .i64 b.n, .slice B b.kids.length d], blk b_1 31 [.int .i64 a.kind, .int .i64 a.n, .slice A a.kids.length c], rd kTree A c a.kids, rd kTree B d b.kids]) [0, 1, 2, 3, 4, 5, 6, 7, 8, 9, 10, 11] mixed ?_
        refine WA.take (by kernel_rfl) 0 (by decide) rfl (by kernel_rfl) (by kernel_rfl) (by kernel_rfl) (Calm.then (Calm.inBlock (Calm.then (Calm.then (Calm.inBlock (Calm.then (calm_FQ _ _))))))) (Qt.fieldAddrB tf31_2 rfl) trivial rfl (.use 0 rfl (fun _ h => h) (.use 1 rfl (fun _ h => h) (.use 2 rfl (fun _ h => h) (.use 3 rfl (fun _ h => h) (.take 4 rfl (.take 4 rfl (.use 4 rfl (fun _ h => h) (.use 5 rfl (fun _ h => h) (.nil))))))))) ?_
        refine WA.take (by kernel_rfl) 1 (by decide) rfl (by kernel_rfl) (by kernel_rfl) (by kernel_rfl) (Calm.then (Calm.inBlock (Calm.then (Calm.then (Calm.inBlock (Calm.then (calm_FQ _ _))))))) (Qt.loadB 5 rfl ta29 rfl rfl) trivial rfl (.use 0 rfl (fun _ h => h) (.use 1 rfl (fun _ h => h) (.use 2 rfl (fun _ h => h) (.use 3 rfl (fun _ h => h) (.take 4 rfl (.take 4 rfl (.use 4 rfl (fun _ h => h) (.use 5 rfl (fun _ h => h) (.nil))))))))) ?_
        refine WA.take (by kernel_rfl) 2 (by decide) rfl (by kernel_rfl) (by kernel_rfl) (by kernel_rfl) (Calm.then (Calm.inBlock (Calm.then (Calm.then (Calm.inBlock (Calm.then (calm_FQ _ _))))))) (Qt.move rfl) trivial rfl (.use 0 rfl (fun _ h => h) (.use 1 rfl (fun _ h => h) (.use 2 rfl (fun _ h => h) (.use 3 rfl (fun _ h => h) (.take 4 rfl (.take 4 rfl (.use 4 rfl (fun _ h => h) (.use 5 rfl (fun _ h => h) (.nil))))))))) ?_
        refine WA.take (by kernel_rfl) 3 (by decide) rfl (by kernel_rfl) (by kernel_rfl) (by kernel_rfl) (Calm.then (Calm.inBlock (Calm.then (Calm.then (Calm.inBlock (Calm.then (calm_FQ _ _))))))) (Qt.indexAddrE k hA_1 Tryz.underlying29 ti31 rfl rfl (by first | assumption | omega)) trivial rfl (.use 0 rfl (fun _ h => h) (.use 1 rfl (fun _ h => h) (.use 2 rfl (fun _ h => h) (.use 3 rfl (fun _ h => h) (.take 4 rfl (.take 4 rfl (.use 4 rfl (fun _ h => h) (.use 5 rfl (fun _ h => h) (.nil))))))))) ?_
        refine WA.take (by kernel_rfl) 4 (by decide) rfl (by kernel_rfl) (by kernel_rfl) (by kernel_rfl) (Calm.then (Calm.inBlock (Calm.then (Calm.then (Calm.inBlock (Calm.then (calm_FQ _ _))))))) (Qt.loadCA (p := p_1.add (k * 3)) (o := 0) 2 rfl ta31 ti31 rfl rfl) trivial rfl (.use 0 rfl (fun _ h => h) (.use 1 rfl (fun _ h => h) (.use 2 rfl (fun _ h => h) (.use 3 rfl (fun _ h => h) (.take 4 rfl (.take 4 rfl (.use 4 rfl (fun _ h => h) (.use 5 rfl (fun _ h => h) (.nil))))))))) ?_
        refine WA.take (by kernel_rfl) 5 (by decide) rfl (by kernel_rfl) (by kernel_rfl) (by kernel_rfl) (Calm.then (Calm.inBlock (Calm.then (Calm.then (Calm.inBlock (Calm.then (calm_FQ _ _))))))) (Qt.fieldAddrB tf31_2 rfl) trivial rfl (.use 0 rfl (fun _ h => h) (.use 1 rfl (fun _ h => h) (.use 2 rfl (fun _ h => h) (.use 3 rfl (fun _ h => h) (.take 4 rfl (.take 4 rfl (.use 4 rfl (fun _ h => h) (.use 5 rfl (fun _ h => h) (.nil))))))))) ?_
        refine WA.take (by kernel_rfl) 6 (by decide) rfl (by kernel_rfl) (by kernel_rfl) (by kernel_rfl) (Calm.then (Calm.inBlock (Calm.then (Calm.then (Calm.inBlock (Calm.then (calm_FQ _ _))))))) (Qt.loadB 4 rfl ta29 rfl rfl) trivial rfl (.use 0 rfl (fun _ h => h) (.use 1 rfl (fun _ h => h) (.use 2 rfl (fun _ h => h) (.use 3 rfl (fun _ h => h) (.take 4 rfl (.take 4 rfl (.use 4 rfl (fun _ h => h) (.use 5 rfl (fun _ h => h) (.nil))))))))) ?_
        refine WA.take (by kernel_rfl) 7 (by decide) rfl (by kernel_rfl) (by kernel_rfl) (by kernel_rfl) (Calm.then (Calm.inBlock (Calm.then (Calm.then (Calm.inBlock (Calm.then (calm_FQ _ _))))))) (Qt.move rfl) trivial rfl (.use 0 rfl (fun _ h => h) (.use 1 rfl (fun _ h => h) (.use 2 rfl (fun _ h => h) (.use 3 rfl (fun _ h => h) (.take 4 rfl (.take 4 rfl (.use 4 rfl (fun _ h => h) (.use 5 rfl (fun _ h => h) (.nil))))))))) ?_
        refine WA.take (by kernel_rfl) 8 (by decide) rfl (by kernel_rfl) (by kernel_rfl) (by kernel_rfl) (Calm.then (Calm.inBlock (Calm.then (Calm.then (Calm.inBlock (Calm.then (calm_FQ _ _))))))) (Qt.indexAddrE k hA_2 Tryz.underlying29 ti31 rfl rfl (by first | assumption | omega)) trivial rfl (.use 0 rfl (fun _ h => h) (.use 1 rfl (fun _ h => h) (.use 2 rfl (fun _ h => h) (.use 3 rfl (fun _ h => h) (.take 4 rfl (.take 4 rfl (.use 4 rfl (fun _ h => h) (.use 5 rfl (fun _ h => h) (.nil))))))))) ?_
        refine WA.take (by kernel_rfl) 9 (by decide) rfl (by kernel_rfl) (by kernel_rfl) (by kernel_rfl) (Calm.then (Calm.inBlock (Calm.then (Calm.then (Calm.inBlock (Calm.then (calm_FQ _ _))))))) (Qt.loadCA (p := p_2.add (k * 3)) (o := 0) 0 rfl ta31 ti31 rfl rfl) trivial rfl (.use 0 rfl (fun _ h => h) (.use 1 rfl (fun _ h => h) (.use 2 rfl (fun _ h => h) (.use 3 rfl (fun _ h => h) (.take 4 rfl (.take 4 rfl (.use 4 rfl (fun _ h => h) (.use 5 rfl (fun _ h => h) (.nil))))))))) ?_
        refine WA.one 10 (by kernel_rfl) ?_
        refine WO.call rfl (.use 3 rfl (fun _ h => h) (.use 1 rfl (fun _ h => h) (.nil))) (Cl.func cb13 rfl) (ih (a.kids[k]) (b.kids[k]) _ _ _ _ (by have := kid_size a k (by omega); omega)) trivial rfl (by rintro _ _ ⟨rfl, rfl⟩; exact ⟨_, (.use 0 rfl (fun _ h => h) (.use 1 rfl (fun _ h => h) (.use 2 rfl (fun _ h => h) (.use 3 rfl (fun _ h => h) (.take 4 rfl (.take 4 rfl (.use 4 rfl (fun _ h => h) (.use 5 rfl (fun _ h => h) (.nil)))))))))⟩) ?_
        rintro _ _ ⟨rfl, rfl⟩
        refine WA.take (by kernel_rfl) 11 (by decide) rfl (by kernel_rfl) (by kernel_rfl) (by kernel_rfl) (Calm.then (Calm.inBlock (Calm.then (Calm.then (Calm.inBlock (Calm.then (calm_FQ _ _))))))) (Qt.not rfl) trivial rfl (.use 0 rfl (fun _ h => h) (.use 1 rfl (fun _ h => h) (.use 2 rfl (fun _ h => h) (.use 3 rfl (fun _ h => h) (.take 4 rfl (.take 4 rfl (.use 4 rfl (fun _ h => h) (.use 5 rfl (fun _ h => h) (.nil))))))))) ?_
        refine WA.done (by kernel_rfl) ?_
        refine WX.next ?_
        refine WC.cond rfl (fun hc_3 => ?_) (fun hc_3 => ?_)
        ·
          refine WC.seq ?_
          refine WC.region ?_
          refine WL.quiet (Qt.assign rfl) rfl rfl ?_
          refine WL.nil ?_
          refine WX.next ?_
          refine WC.ret ?_
          refine WX.block_ret ?_
          refine WX.pass_ret ?_
          refine WX.pass_ret ?_
          refine WX.block_ret ?_
          refine WX.pass_ret ?_
          refine WX.ret1 (.nil) rfl rfl ?_
          exact ⟨by rw [same_not]; intro h; subst h; simp [same_self] at hc_3, rfl⟩
        ·
          refine WC.skip ?_
          refine WX.block_end ?_
          refine WX.next ?_
          refine WC.region ?_
          refine WL.quiet (Qt.move rfl) rfl rfl ?_
          refine WL.quiet (Qt.add rfl rfl (by omega)) rfl rfl ?_
          refine WL.quiet (Qt.assign rfl) rfl rfl ?_
          refine WL.nil ?_
          exact WX.back (k + 1) ⟨by omega, take_succ_eq hkk (by omega) (by omega) ((same_iff _ _).1 (by simpa using hc_3))⟩ (by first | omega | (dsimp only; omega) | (simp; omega)) ⟨rfl, rfl, rfl, rfl, trivial⟩ (.take 4 rfl (.take 4 rfl (.use 4 rfl (fun _ h => h) (.use 5 rfl (fun _ h => h) (.nil)))))
      ·
        refine WC.exit ?_
        refine WX.pass_exit ?_
        refine WX.pass_exit ?_
        refine WX.block_exit ?_
        refine WX.next ?_
        refine WC.seq ?_
        refine WC.region ?_
        refine WL.quiet (Qt.assign rfl) rfl rfl ?_
        refine WL.nil ?_
        refine WX.next ?_
        refine WC.ret ?_
        refine WX.ret1 (.nil) rfl rfl ?_
        exact ⟨by rw [(same_iff a b).2]; exact PT.ext (by omega) (by omega) (take_all_eq hkk (by omega) (by omega)), rfl⟩
theorem equalR (a b : PT) (A B : Option Addr) (c d : Nat)  : Spec μ Tryz.prog 13 #[.agg [.int .i64 a.kind, .int .i64 a.n, .slice A a.kids.length c].toArray, .agg [.int .i64 b.kind, .int .i64 b.n, .slice B b.kids.length d].toArray] [rd kTree A c a.kids, rd kTree B d b.kids] fun v Δ => v = .bool (same a b) ∧ Δ = [] := equalR_ih _ a b A B c d (Nat.lt_succ_self _) 

end Go.Proofs.YtkhmbhdlfpalkaaGreatDoor.Sep

/- A walk, printed by gen.py out of hints. -/
namespace Go.Proofs.YtkhmbhdlfpalkaaGreatDoor.Sep
open Go
variable {μ : Prop}
theorem lawW (t : PT) (n : Int) (A : Option Addr) (c : Nat) (hn : 0 ≤ n ∧ n ≤ 255) : Spec False Tryz.prog 3 #[.agg [.int .i64 t.kind, .int .i64 t.n, .slice A t.kids.length c].toArray, .int .u8 n] [rd kTree A c t.kids, cellsAt (⟨0, 0, none⟩ : Addr) [.int .u8 0, .int .u8 0, .int .u8 91, .int .u8 93, .int .u8 123, .int .u8 125]] fun v Δ => v = .bool true ∧ Δ = [] := by
  refine Spec.of_body (n := 104) Tryz.func3 rfl rfl rfl fun w0 S0 O0 => ?_
  show WC _ _ _ _ _ _ [(0, .agg [.int .i64 t.kind, .int .i64 t.n, .slice A t.kids.length c].toArray), (1, .int .u8 n)] [rd kTree A c t.kids, cellsAt (⟨0, 0, none⟩ : Addr) [.int .u8 0, .int .u8 0, .int .u8 91, .int .u8 93, .int .u8 123, .int .u8 125]]
  refine WC.seq ?_
  refine WC.region ?_
  refine WL.loud (.nil) (Ld.box rfl rfl) trivial rfl ?_
  rintro _ _ ⟨b_1, rfl, rfl⟩
  refine WL.quiet (Qt.assign rfl) rfl rfl ?_
  refine WL.nil ?_
  refine WX.next ?_
  refine WC.seq ?_
  refine WC.seq ?_
  refine WC.region ?_
  refine WL.quiet (Qt.loadBA 0 rfl ta24 ti24 rfl rfl) rfl rfl ?_
  refine WL.call (.use 1 rfl (fun _ h => h) (.nil)) (Cl.func cb4 rfl) (tooLargeW t _ _) trivial rfl ?_
  rintro _ _ ⟨x_1, rfl, rfl, hx_1⟩
  refine WL.quiet (Qt.gtr rfl rfl) rfl rfl ?_
  refine WL.nil ?_
  refine WX.next ?_
  refine WC.condD rfl (fun hc_1 => ?_) (fun hc_1 => ?_)
  ·
    refine WC.seq ?_
    refine WC.region ?_
    refine WL.call (.use 2 rfl (fun _ h => h) (.nil)) (Cl.func cb5 rfl) (aliveW) trivial rfl ?_
    rintro _ _ ⟨rfl, rfl⟩
    refine WL.quiet (Qt.assign rfl) rfl rfl ?_
    refine WL.nil ?_
    refine WX.next ?_
    refine WC.ret ?_
    refine WX.pass_ret ?_
    refine WX.ret1 (.nil) rfl rfl ?_
    exact ⟨rfl, rfl⟩
  ·
    refine WC.skip ?_
    refine WX.next ?_
    refine WC.seq ?_
    have hnd := hx_1 (by omega)
    have hln := leaves_le_nodes t
    refine WC.region ?_
    refine WL.quiet (Qt.loadBA 0 rfl ta24 ti24 rfl rfl) rfl rfl ?_
    refine WL.call (.use 1 rfl (fun _ h => h) (.nil)) (Cl.func cb7 rfl) (ofW t _ _ (by omega)) trivial rfl ?_
    rintro _ _ ⟨A_1, c_1, rfl, rfl⟩
    refine WL.call (.use 0 rfl (fun _ h => h) (.nil)) (Cl.func cb6 rfl) (leavesR t _ _ (by omega)) trivial rfl ?_
    rintro _ _ ⟨A_2, c_2, rfl, rfl⟩
    refine WL.quiet (Qt.lenS Tryz.underlying27 rfl) rfl rfl ?_
    refine WL.quiet (Qt.assign rfl) rfl rfl ?_
    refine WL.nil ?_
    refine WX.next ?_
    refine WC.seq ?_
    refine WC.cut (fun _ : Unit => [(1, .int .u8 n), (2, .pointer (some ⟨b_1, 0, none⟩)), (4, .bool false), (5, .int .i64 ((t.leaves.length : Nat) : Int)), (32, .bool (yes (40 < t.leaves.length ∨ ¬ Vld (t.leaves.length : Int) [] t)))]) (fun _ => [row kInt 3 A_2 c_2 t.leaves, rd kTree A_1 c_1 t.kids, blk b_1 24 [.int .i64 t.kind, .int .i64 t.n, .slice A t.kids.length c], rd kTree A c t.kids, cellsAt (⟨0, 0, none⟩ : Addr) [.int .u8 0, .int .u8 0, .int .u8 91, .int .u8 93, .int .u8 123, .int .u8 125]]) (fun _ => True) ?_ ?_
    ·
      refine WC.region ?_
      refine WL.quiet (Qt.move rfl) rfl rfl ?_
      refine WL.quiet (Qt.gtr rfl rfl) rfl rfl ?_
      refine WL.quiet (Qt.move rfl) rfl rfl ?_
      refine WL.splitD 27 rfl rfl (fun hg_1 => ?_) (fun hg_1 => ?_)
      ·
        refine WL.skipG 2 false true rfl 27 rfl rfl rfl rfl ?_
        refine WL.skipG 2 false true rfl 27 rfl rfl rfl rfl ?_
        refine WL.skipG 2 false true rfl 27 rfl rfl rfl rfl ?_
        refine WL.skipG 2 false true rfl 27 rfl rfl rfl rfl ?_
        refine WL.quiet (Qt.pickT rfl rfl) rfl rfl ?_
        refine WL.nil ?_
        exact WX.cut () trivial ⟨rfl, rfl, rfl, rfl, (by rw [show yes (40 < t.leaves.length ∨ ¬ Vld (t.leaves.length : Int) [] t) = true from yes_of (.inl (by omega))]; rfl), trivial⟩ (.take 0 rfl (.use 0 rfl (fun _ h => h) (.take 1 rfl (.use 1 rfl (fun _ h => h) (.use 2 rfl (fun _ h => h) (.nil))))))
      ·
        refine WL.quietG 2 false rfl 27 rfl rfl (Qt.loadBA 2 rfl ta24 ti24 rfl rfl) rfl ?_
        refine WL.quietG 2 false rfl 27 rfl rfl (Qt.move rfl) rfl ?_
        refine WL.call (.use 3 rfl (fun _ h => h) (.nil)) (Cl.func cb8 rfl) (treeCheckW t ((t.leaves.length : Nat) : Int) _ _) ⟨27, rfl, rfl⟩ rfl ?_
        rintro _ _ ⟨e_1, rfl, rfl, hck_1⟩
        refine WL.quietG 2 false rfl 27 rfl rfl (Qt.neq rfl rfl) rfl ?_
        refine WL.quiet (Qt.pickF rfl rfl) rfl rfl ?_
        refine WL.nil ?_
        exact WX.cut () trivial ⟨rfl, rfl, rfl, rfl, (by rw [show yes (40 < t.leaves.length ∨ ¬ Vld (t.leaves.length : Int) [] t) = (decide ((e_1 : Int) ≠ 0)) from law_bad hck_1 (by omega)]; rfl), trivial⟩ (.take 0 rfl (.use 0 rfl (fun _ h => h) (.take 1 rfl (.use 1 rfl (fun _ h => h) (.use 2 rfl (fun _ h => h) (.nil))))))
    ·
      intro _ _
      show WC _ _ _ _ _ _ [(1, .int .u8 n), (2, .pointer (some ⟨b_1, 0, none⟩)), (4, .bool false), (5, .int .i64 ((t.leaves.length : Nat) : Int)), (32, .bool (yes (40 < t.leaves.length ∨ ¬ Vld (t.leaves.length : Int) [] t)))] [row kInt 3 A_2 c_2 t.leaves, rd kTree A_1 c_1 t.kids, blk b_1 24 [.int .i64 t.kind, .int .i64 t.n, .slice A t.kids.length c], rd kTree A c t.kids, cellsAt (⟨0, 0, none⟩ : Addr) [.int .u8 0, .int .u8 0, .int .u8 91, .int .u8 93, .int .u8 123, .int .u8 125]]
      refine WC.cond rfl (fun hc_2 => ?_) (fun hc_2 => ?_)
      ·
        refine WC.seq ?_
        refine WC.region ?_
        refine WL.call (.use 4 rfl (fun _ h => h) (.nil)) (Cl.func cb5 rfl) (aliveW) trivial rfl ?_
        rintro _ _ ⟨rfl, rfl⟩
        refine WL.quiet (Qt.assign rfl) rfl rfl ?_
        refine WL.nil ?_
        refine WX.next ?_
        refine WC.ret ?_
        refine WX.pass_ret ?_
        refine WX.ret1 (.nil) rfl rfl ?_
        exact ⟨rfl, rfl⟩
      ·
        have hv := law_ok hc_2
        refine WC.skip ?_
        refine WX.next ?_
        refine WC.seq ?_
        refine WC.region ?_
        refine WL.quiet (Qt.move rfl) rfl rfl ?_
        refine WL.loud (.nil) (Ld.makeSlice (e := kContact) (m := t.leaves.length) (Contact.mk 0 0 0 ⟨#[]⟩ ⟨#[]⟩) Tryz.underlying35 ti39 rfl (by decide) (by decide) rfl (by omega) (fun _ _ => rfl)) trivial rfl ?_
        rintro _ _ ⟨A_3, rfl, rfl⟩
        refine WL.quiet (Qt.assign rfl) rfl rfl ?_
        refine WL.nil ?_
        refine WX.next ?_
        refine WC.seq ?_
        refine WC.seq ?_
        have hpos : 0 < t.leaves.length := ok_leaves t hv.2.1
        have hrl : (List.replicate t.leaves.length (Contact.mk 0 0 0 ⟨#[]⟩ ⟨#[]⟩)).length = t.leaves.length := List.length_replicate
        refine WC.turn (.take 0 rfl (.nil)) (row_open (by omega)) ?_
        rintro _ ⟨b_2, cur_1, rfl, rfl⟩
        refine WC.region ?_
        refine WL.quiet (Qt.move rfl) rfl rfl ?_
        refine WL.quiet (Qt.lenS Tryz.underlying35 rfl) rfl rfl ?_
        refine WL.quiet (Qt.move rfl) rfl rfl ?_
        refine WL.nil ?_
        refine WX.next ?_
        refine WC.block ?_
        refine WC.loop (fun w0 : Nat × (List Contact) × (List Value) => [(1, .int .u8 n), (2, .pointer (some ⟨b_1, 0, none⟩)), (4, .bool false), (6, .slice (some ⟨b_2, 0, none⟩) w0.2.1.length t.leaves.length), (37, .int .i64 (((List.replicate t.leaves.length (Contact.mk 0 0 0 ⟨#[]⟩ ⟨#[]⟩)).length : Nat) : Int)), (38, .int .i64 ((w0.1 : Nat) : Int))]) (fun w0 => [rowL kContact 39 b_2 t.leaves.length w0.2.1 w0.2.2, row kInt 3 A_2 c_2 t.leaves, rd kTree A_1 c_1 t.kids, blk b_1 24 [.int .i64 t.kind, .int .i64 t.n, .slice A t.kids.length c], rd kTree A c t.kids, cellsAt (⟨0, 0, none⟩ : Addr) [.int .u8 0, .int .u8 0, .int .u8 91, .int .u8 93, .int .u8 123, .int .u8 125]]) (fun w0 => w0.2.1.length = t.leaves.length ∧ w0.1 ≤ t.leaves.length) (fun w0 => t.leaves.length - w0.1) (0, (List.replicate t.leaves.length (Contact.mk 0 0 0 ⟨#[]⟩ ⟨#[]⟩)), cur_1) ⟨hrl, Nat.zero_le _⟩ ⟨rfl, rfl, rfl, rfl, rfl, rfl, trivial⟩ (.take 0 rfl (.take 0 rfl (.use 0 rfl (fun _ h => h) (.take 1 rfl (.use 1 rfl (fun _ h => h) (.use 2 rfl (fun _ h => h) (.nil))))))) ?_
        rintro ⟨k, l, cu⟩ ⟨hll, hk⟩
        try dsimp only at hll hk
        show WC _ _ _ _ _ _ [(1, .int .u8 n), (2, .pointer (some ⟨b_1, 0, none⟩)), (4, .bool false), (6, .slice (some ⟨b_2, 0, none⟩) l.length t.leaves.length), (37, .int .i64 (((List.replicate t.leaves.length (Contact.mk 0 0 0 ⟨#[]⟩ ⟨#[]⟩)).length : Nat) : Int)), (38, .int .i64 ((k : Nat) : Int))] [rowL kContact 39 b_2 t.leaves.length l cu, row kInt 3 A_2 c_2 t.leaves, rd kTree A_1 c_1 t.kids, blk b_1 24 [.int .i64 t.kind, .int .i64 t.n, .slice A t.kids.length c], rd kTree A c t.kids, cellsAt (⟨0, 0, none⟩ : Addr) [.int .u8 0, .int .u8 0, .int .u8 91, .int .u8 93, .int .u8 123, .int .u8 125]]
        refine WC.seq ?_
        refine WC.region ?_
        refine WL.quiet (Qt.lss rfl rfl) rfl rfl ?_
        refine WL.nil ?_
        refine WX.next ?_
        refine WC.seq ?_
        refine WC.condD rfl (fun hc_3 => ?_) (fun hc_3 => ?_)
        ·
          refine WC.skip ?_
          refine WX.next ?_
          refine WC.seq ?_
          refine WC.block ?_
          refine WC.seq ?_
          refine WC.region ?_
          refine WL.quiet (Qt.move rfl) rfl rfl ?_
          refine WL.quiet (Qt.assign rfl) rfl rfl ?_
          refine WL.nil ?_
          refine WX.next ?_
          refine WC.region ?_
          refine WL.quiet (Qt.move rfl) rfl rfl ?_
          refine WL.quiet (Qt.move rfl) rfl rfl ?_
          refine WL.quiet (Qt.move rfl) rfl rfl ?_
          refine WL.quiet (Qt.to (Qt.conv Tryz.underlying5 Tryz.underlying3 rfl) (congrArg (Value.int .i64) (wrap_in64 _ (by omega)))) rfl rfl ?_
          refine WL.quiet (Qt.rem rfl rfl (by omega) (by omega)) rfl rfl ?_
          refine WL.quiet (Qt.move rfl) rfl rfl ?_
          refine WL.quiet (Qt.build tp37 ti37 rfl rfl rfl) rfl rfl ?_
          refine WL.quiet (Qt.build tp39 ti39 rfl rfl rfl) rfl rfl ?_
          have hj_1 : k < l.length := by omega
          refine WL.learn 0 rfl (rowL_at k hj_1 (vContact _)) ?_
          rintro _ hel_1
          refine WL.quiet (Qt.indexAddrB k Tryz.underlying35 ti39 rfl rfl (by first | assumption | omega)) rfl rfl ?_
          refine WL.loud (.take 0 rfl (.nil)) (Ld.storeR (j := k) (o := 0) (Contact.mk (n % 4) 0 ((k : Nat) : Int) (⟨#[]⟩ : ByteArray) (⟨#[]⟩ : ByteArray)) (by first | assumption | omega | (simp; omega)) hel_1 ti39 rfl rfl rfl rfl rfl rfl (fun S w h => rfl)) trivial rfl ?_
          rintro _ _ ⟨cur_2, hel_2, hoth_1, rfl⟩
          refine WL.nil ?_
          refine WX.block_end ?_
          refine WX.next ?_
          refine WC.region ?_
          refine WL.quiet (Qt.add rfl rfl (by omega)) rfl rfl ?_
          refine WL.quiet (Qt.move rfl) rfl rfl ?_
          refine WL.nil ?_
          exact WX.back (k + 1, l.set k (Contact.mk (n % 4) 0 ((k : Nat) : Int) (⟨#[]⟩ : ByteArray) (⟨#[]⟩ : ByteArray)), cur_2) ⟨by dsimp only; rw [List.length_set]; exact hll, by omega⟩ (by first | omega | (dsimp only; omega) | (simp; omega)) ⟨(by first | rfl | (rw [List.length_set]; rfl)), (by first | rfl | (rw [List.length_set]; rfl)), (by first | rfl | (rw [List.length_set]; rfl)), (by first | rfl | (rw [List.length_set]; rfl)), (by first | rfl | (rw [List.length_set]; rfl)), (by first | rfl | (rw [List.length_set]; rfl)), trivial⟩ (.take 0 rfl (.take 0 rfl (.use 0 rfl (fun _ h => h) (.take 1 rfl (.use 1 rfl (fun _ h => h) (.use 2 rfl (fun _ h => h) (.nil)))))))
        ·
          refine WC.exit ?_
          refine WX.pass_exit ?_
          refine WX.pass_exit ?_
          refine WX.block_exit ?_
          refine WX.next ?_
          refine WC.seq ?_
          refine WC.turn (.take 0 rfl (.nil)) (row_close) ?_
          rintro _ rfl
          refine WC.turn (.take 0 rfl (.nil)) (freeze_row) ?_
          rintro _ rfl
          have hv2 := hv.2
          rw [← hll] at hv2
          have hb : l.length ≤ 98 := by omega
          refine WC.region ?_
          refine WL.quiet (Qt.loadBA 3 rfl ta24 ti24 rfl rfl) rfl rfl ?_
          refine WL.quiet (Qt.move rfl) rfl rfl ?_
          refine WL.call (.use 4 rfl (fun _ h => h) (.use 0 rfl (fun _ h => h) (.nil))) (Cl.func cb9 rfl) (expandW t l _ _ _ _ hv2 hll.symm hb) trivial rfl ?_
          rintro _ _ ⟨A_4, c_3, rfl, rfl⟩
          refine WL.quiet (Qt.move rfl) rfl rfl ?_
          refine WL.quiet (Qt.extract rfl rfl) rfl rfl ?_
          refine WL.quiet (Qt.extract rfl rfl) rfl rfl ?_
          refine WL.loud (.nil) (Ld.alloc ti42 rfl) trivial rfl ?_
          rintro _ _ ⟨b_3, rfl, rfl⟩
          refine WL.loud (.take 0 rfl (.nil)) (Ld.store ti42 rfl rfl rfl rfl rfl rfl) trivial rfl ?_
          rintro _ _ rfl
          refine WL.quiet (Qt.assign rfl) rfl rfl ?_
          refine WL.nil ?_
          refine WX.next ?_
          refine WC.seq ?_
          refine WC.region ?_
          refine WL.quiet (Qt.loadBA 0 rfl ta42 ti42 rfl rfl) rfl rfl ?_
          refine WL.call (.use 1 rfl (fun _ h => h) (.nil)) (Cl.func cb10 rfl) (reduceW ((layT t sL sR (0, l)).2) _ _ _ _ _ _ _ (by rw [layT_len]; dsimp only; omega)) trivial rfl ?_
          rintro _ _ ⟨e_2, u_1, A_5, c_4, rfl, rfl, hred_1⟩
          refine WL.quiet (Qt.move rfl) rfl rfl ?_
          refine WL.quiet (Qt.extract rfl rfl) rfl rfl ?_
          refine WL.quiet (Qt.extract rfl rfl) rfl rfl ?_
          refine WL.loud (.nil) (Ld.alloc ti24 rfl) trivial rfl ?_
          rintro _ _ ⟨b_4, rfl, rfl⟩
          refine WL.loud (.take 0 rfl (.nil)) (Ld.store ti24 rfl rfl rfl rfl rfl rfl) trivial rfl ?_
          rintro _ _ rfl
          refine WL.quiet (Qt.assign rfl) rfl rfl ?_
          refine WL.nil ?_
          refine WX.next ?_
          refine WC.seq ?_
          obtain ⟨he1, hu1⟩ := law_red hv2 hll.symm hb hred_1
          have hv3 := srtT_vld hv2 hll.symm
          rw [← hu1] at hv3
          refine WC.region ?_
          refine WL.quiet (Qt.loadBA 0 rfl ta24 ti24 rfl rfl) rfl rfl ?_
          refine WL.quiet (Qt.move rfl) rfl rfl ?_
          refine WL.call (.use 1 rfl (fun _ h => h) (.use 4 rfl (fun _ h => h) (.nil))) (Cl.func cb9 rfl) (expandW u_1 l _ _ _ _ hv3.1 hv3.2 hb) trivial rfl ?_
          rintro _ _ ⟨A_6, c_5, rfl, rfl⟩
          refine WL.quiet (Qt.move rfl) rfl rfl ?_
          refine WL.quiet (Qt.extract rfl rfl) rfl rfl ?_
          refine WL.quiet (Qt.extract rfl rfl) rfl rfl ?_
          refine WL.loud (.nil) (Ld.alloc ti42 rfl) trivial rfl ?_
          rintro _ _ ⟨b_5, rfl, rfl⟩
          refine WL.loud (.take 0 rfl (.nil)) (Ld.store ti42 rfl rfl rfl rfl rfl rfl) trivial rfl ?_
          rintro _ _ rfl
          refine WL.quiet (Qt.assign rfl) rfl rfl ?_
          refine WL.nil ?_
          refine WX.next ?_
          refine WC.seq ?_
          refine WC.region ?_
          refine WL.quiet (Qt.loadBA 0 rfl ta42 ti42 rfl rfl) rfl rfl ?_
          refine WL.call (.use 1 rfl (fun _ h => h) (.nil)) (Cl.func cb10 rfl) (reduceW ((layT u_1 sL sR (0, l)).2) _ _ _ _ _ _ _ (by rw [layT_len]; dsimp only; omega)) trivial rfl ?_
          rintro _ _ ⟨e_3, u_2, A_7, c_6, rfl, rfl, hred_2⟩
          refine WL.quiet (Qt.move rfl) rfl rfl ?_
          refine WL.quiet (Qt.extract rfl rfl) rfl rfl ?_
          refine WL.quiet (Qt.extract rfl rfl) rfl rfl ?_
          refine WL.loud (.nil) (Ld.alloc ti24 rfl) trivial rfl ?_
          rintro _ _ ⟨b_6, rfl, rfl⟩
          refine WL.loud (.take 0 rfl (.nil)) (Ld.store ti24 rfl rfl rfl rfl rfl rfl) trivial rfl ?_
          rintro _ _ rfl
          refine WL.quiet (Qt.assign rfl) rfl rfl ?_
          refine WL.nil ?_
          refine WX.next ?_
          refine WC.seq ?_
          obtain ⟨he2, hu2⟩ := law_red hv3.1 hv3.2 hb hred_2
          have hs1 : same u_1 u_2 = true := (same_iff _ _).2 (by rw [hu2, hu1]; exact (srtT_idem hv2.1 hv2.2.2.1).symm)
          have hs2 : same u_1 (sortedR t) = true := (same_iff _ _).2 (by rw [hu1]; exact (sortedR_eq hv2.1 hv2.2.2.1).symm)
          have hn1 : u_1.nodes = t.nodes := by rw [hu1]; exact (srtT_sorts hv2.1).nodes
          refine WC.region ?_
          refine WL.quiet (Qt.loadBA 11 rfl ta24 ti24 rfl rfl) rfl rfl ?_
          refine WL.call (.use 12 rfl (fun _ h => h) (.nil)) (Cl.func cb7 rfl) (ofW t _ _ (by omega)) trivial rfl ?_
          rintro _ _ ⟨A_8, c_7, rfl, rfl⟩
          refine WL.call (.use 0 rfl (fun _ h => h) (.nil)) (Cl.func cb11 rfl) (sortedRW t _ _ hv2.1 (by omega)) trivial rfl ?_
          rintro _ _ ⟨A_9, c_8, rfl, rfl⟩
          refine WL.loud (.nil) (Ld.alloc ti31 rfl) trivial rfl ?_
          rintro _ _ ⟨b_7, rfl, rfl⟩
          refine WL.loud (.take 0 rfl (.nil)) (Ld.store ti31 rfl rfl rfl rfl rfl rfl) trivial rfl ?_
          rintro _ _ rfl
          refine WL.nil ?_
          refine WX.next ?_
          refine WC.seq ?_
          refine WC.draw (Γq := [blk b_7 31 [.int .i64 ((sortedR t).kind), .int .i64 ((sortedR t).n), .slice A_9 ((sortedR t).kids.length) c_8], rd kTree A_9 c_8 ((sortedR t).kids), rd kTree A_8 c_7 t.kids, blk b_6 24 [.int .i64 u_2.kind, .int .i64 u_2.n, .slice A_7 u_2.kids.length c_6], rd kTree A_7 c_6 u_2.kids, blk b_5 42 [.string (⟨#[]⟩ : ByteArray), .slice A_6 ((layT u_1 sL sR (0, l)).2.length) c_5, .slice none 0 0, .string (⟨#[]⟩ : ByteArray)], rd kContact A_6 c_5 ((layT u_1 sL sR (0, l)).2), blk b_4 24 [.int .i64 u_1.kind, .int .i64 u_1.n, .slice A_5 u_1.kids.length c_4], rd kTree A_5 c_4 u_1.kids, blk b_3 42 [.string (⟨#[]⟩ : ByteArray), .slice A_4 ((layT t sL sR (0, l)).2.length) c_3, .slice none 0 0, .string (⟨#[]⟩ : ByteArray)], rd kContact A_4 c_3 ((layT t sL sR (0, l)).2), rd kContact (some ⟨b_2, 0, none⟩) t.leaves.length l, row kInt 3 A_2 c_2 t.leaves, rd kTree A_1 c_1 t.kids, blk b_1 24 [.int .i64 t.kind, .int .i64 t.n, .slice A t.kids.length c], rd kTree A c t.kids, cellsAt (⟨0, 0, none⟩ : Addr) [.int .u8 0, .int .u8 0, .int .u8 91, .int .u8 93, .int .u8 123, .int .u8 125]]) [0, 1, 2, 3, 4, 5, 6, 7, 8, 9, 10, 11, 12, 13, 14, 15, 16, 17, 18, 19, 20, 21, 22, 23, 24, 25, 26, 27] mixed ?_
          refine WA.one 0 (by kernel_rfl) ?_
          refine WO.call rfl (.use 16 rfl (fun _ h => h) (.nil)) (Cl.func cb5 rfl) (aliveW) trivial rfl (by rintro _ _ ⟨rfl, rfl⟩; exact ⟨_, (.take 0 rfl (.use 0 rfl (fun _ h => h) (.use 1 rfl (fun _ h => h) (.take 2 rfl (.use 2 rfl (fun _ h => h) (.take 3 rfl (.use 3 rfl (fun _ h => h) (.take 4 rfl (.use 4 rfl (fun _ h => h) (.take 5 rfl (.use 5 rfl (fun _ h => h) (.use 6 rfl (fun _ h => h) (.take 7 rfl (.use 7 rfl (fun _ h => h) (.take 8 rfl (.use 8 rfl (fun _ h => h) (.use 9 rfl (fun _ h => h) (.nil))))))))))))))))))⟩) ?_
          rintro _ _ ⟨rfl, rfl⟩
          refine WA.take (by kernel_rfl) 1 (by decide) rfl (by kernel_rfl) (by kernel_rfl) (by kernel_rfl) (Calm.then (calm_FQ _ _)) (Qt.move rfl) trivial rfl (.take 0 rfl (.use 0 rfl (fun _ h => h) (.use 1 rfl (fun _ h => h) (.take 2 rfl (.use 2 rfl (fun _ h => h) (.take 3 rfl (.use 3 rfl (fun _ h => h) (.take 4 rfl (.use 4 rfl (fun _ h => h) (.take 5 rfl (.use 5 rfl (fun _ h => h) (.use 6 rfl (fun _ h => h) (.take 7 rfl (.use 7 rfl (fun _ h => h) (.take 8 rfl (.use 8 rfl (fun _ h => h) (.use 9 rfl (fun _ h => h) (.nil)))))))))))))))))) ?_
          refine WA.take (by kernel_rfl) 2 (by decide) rfl (by kernel_rfl) (by kernel_rfl) (by kernel_rfl) (Calm.then (calm_FQ _ _)) (Qt.move rfl) ⟨77, rfl, rfl⟩ rfl (.take 0 rfl (.use 0 rfl (fun _ h => h) (.use 1 rfl (fun _ h => h) (.take 2 rfl (.use 2 rfl (fun _ h => h) (.take 3 rfl (.use 3 rfl (fun _ h => h) (.take 4 rfl (.use 4 rfl (fun _ h => h) (.take 5 rfl (.use 5 rfl (fun _ h => h) (.use 6 rfl (fun _ h => h) (.take 7 rfl (.use 7 rfl (fun _ h => h) (.take 8 rfl (.use 8 rfl (fun _ h => h) (.use 9 rfl (fun _ h => h) (.nil)))))))))))))))))) ?_
          refine WA.take (by kernel_rfl) 3 (by decide) rfl (by kernel_rfl) (by kernel_rfl) (by kernel_rfl) (Calm.then (calm_FQ _ _)) (Qt.to (Qt.eql rfl rfl) (congrArg Value.bool (decide_eq_true rfl))) ⟨77, rfl, rfl⟩ rfl (.take 0 rfl (.use 0 rfl (fun _ h => h) (.use 1 rfl (fun _ h => h) (.take 2 rfl (.use 2 rfl (fun _ h => h) (.take 3 rfl (.use 3 rfl (fun _ h => h) (.take 4 rfl (.use 4 rfl (fun _ h => h) (.take 5 rfl (.use 5 rfl (fun _ h => h) (.use 6 rfl (fun _ h => h) (.take 7 rfl (.use 7 rfl (fun _ h => h) (.take 8 rfl (.use 8 rfl (fun _ h => h) (.use 9 rfl (fun _ h => h) (.nil)))))))))))))))))) ?_
          refine WA.take (by kernel_rfl) 4 (by decide) rfl (by kernel_rfl) (by kernel_rfl) (by kernel_rfl) (Calm.then (calm_FQ _ _)) (Qt.pickT rfl rfl) trivial rfl (.take 0 rfl (.use 0 rfl (fun _ h => h) (.use 1 rfl (fun _ h => h) (.take 2 rfl (.use 2 rfl (fun _ h => h) (.take 3 rfl (.use 3 rfl (fun _ h => h) (.take 4 rfl (.use 4 rfl (fun _ h => h) (.take 5 rfl (.use 5 rfl (fun _ h => h) (.use 6 rfl (fun _ h => h) (.take 7 rfl (.use 7 rfl (fun _ h => h) (.take 8 rfl (.use 8 rfl (fun _ h => h) (.use 9 rfl (fun _ h => h) (.nil)))))))))))))))))) ?_
          refine WA.take (by kernel_rfl) 5 (by decide) rfl (by kernel_rfl) (by kernel_rfl) (by kernel_rfl) (Calm.then (calm_FQ _ _)) (Qt.move rfl) trivial rfl (.take 0 rfl (.use 0 rfl (fun _ h => h) (.use 1 rfl (fun _ h => h) (.take 2 rfl (.use 2 rfl (fun _ h => h) (.take 3 rfl (.use 3 rfl (fun _ h => h) (.take 4 rfl (.use 4 rfl (fun _ h => h) (.take 5 rfl (.use 5 rfl (fun _ h => h) (.use 6 rfl (fun _ h => h) (.take 7 rfl (.use 7 rfl (fun _ h => h) (.take 8 rfl (.use 8 rfl (fun _ h => h) (.use 9 rfl (fun _ h => h) (.nil)))))))))))))))))) ?_
          refine WA.take (by kernel_rfl) 6 (by decide) rfl (by kernel_rfl) (by kernel_rfl) (by kernel_rfl) (Calm.then (calm_FQ _ _)) (Qt.move rfl) ⟨81, rfl, rfl⟩ rfl (.take 0 rfl (.use 0 rfl (fun _ h => h) (.use 1 rfl (fun _ h => h) (.take 2 rfl (.use 2 rfl (fun _ h => h) (.take 3 rfl (.use 3 rfl (fun _ h => h) (.take 4 rfl (.use 4 rfl (fun _ h => h) (.take 5 rfl (.use 5 rfl (fun _ h => h) (.use 6 rfl (fun _ h => h) (.take 7 rfl (.use 7 rfl (fun _ h => h) (.take 8 rfl (.use 8 rfl (fun _ h => h) (.use 9 rfl (fun _ h => h) (.nil)))))))))))))))))) ?_
          refine WA.take (by kernel_rfl) 7 (by decide) rfl (by kernel_rfl) (by kernel_rfl) (by kernel_rfl) (Calm.then (calm_FQ _ _)) (Qt.to (Qt.eql rfl rfl) (congrArg Value.bool (decide_eq_true he1))) ⟨81, rfl, rfl⟩ rfl (.take 0 rfl (.use 0 rfl (fun _ h => h) (.use 1 rfl (fun _ h => h) (.take 2 rfl (.use 2 rfl (fun _ h => h) (.take 3 rfl (.use 3 rfl (fun _ h => h) (.take 4 rfl (.use 4 rfl (fun _ h => h) (.take 5 rfl (.use 5 rfl (fun _ h => h) (.use 6 rfl (fun _ h => h) (.take 7 rfl (.use 7 rfl (fun _ h => h) (.take 8 rfl (.use 8 rfl (fun _ h => h) (.use 9 rfl (fun _ h => h) (.nil)))))))))))))))))) ?_
          refine WA.take (by kernel_rfl) 8 (by decide) rfl (by kernel_rfl) (by kernel_rfl) (by kernel_rfl) (Calm.then (calm_FQ _ _)) (Qt.pickT rfl rfl) trivial rfl (.take 0 rfl (.use 0 rfl (fun _ h => h) (.use 1 rfl (fun _ h => h) (.take 2 rfl (.use 2 rfl (fun _ h => h) (.take 3 rfl (.use 3 rfl (fun _ h => h) (.take 4 rfl (.use 4 rfl (fun _ h => h) (.take 5 rfl (.use 5 rfl (fun _ h => h) (.use 6 rfl (fun _ h => h) (.take 7 rfl (.use 7 rfl (fun _ h => h) (.take 8 rfl (.use 8 rfl (fun _ h => h) (.use 9 rfl (fun _ h => h) (.nil)))))))))))))))))) ?_
          refine WA.take (by kernel_rfl) 9 (by decide) rfl (by kernel_rfl) (by kernel_rfl) (by kernel_rfl) (Calm.then (calm_FQ _ _)) (Qt.move rfl) trivial rfl (.take 0 rfl (.use 0 rfl (fun _ h => h) (.use 1 rfl (fun _ h => h) (.take 2 rfl (.use 2 rfl (fun _ h => h) (.take 3 rfl (.use 3 rfl (fun _ h => h) (.take 4 rfl (.use 4 rfl (fun _ h => h) (.take 5 rfl (.use 5 rfl (fun _ h => h) (.use 6 rfl (fun _ h => h) (.take 7 rfl (.use 7 rfl (fun _ h => h) (.take 8 rfl (.use 8 rfl (fun _ h => h) (.use 9 rfl (fun _ h => h) (.nil)))))))))))))))))) ?_
          refine WA.take (by kernel_rfl) 10 (by decide) rfl (by kernel_rfl) (by kernel_rfl) (by kernel_rfl) (Calm.then (calm_FQ _ _)) (Qt.move rfl) ⟨85, rfl, rfl⟩ rfl (.take 0 rfl (.use 0 rfl (fun _ h => h) (.use 1 rfl (fun _ h => h) (.take 2 rfl (.use 2 rfl (fun _ h => h) (.take 3 rfl (.use 3 rfl (fun _ h => h) (.take 4 rfl (.use 4 rfl (fun _ h => h) (.take 5 rfl (.use 5 rfl (fun _ h => h) (.use 6 rfl (fun _ h => h) (.take 7 rfl (.use 7 rfl (fun _ h => h) (.take 8 rfl (.use 8 rfl (fun _ h => h) (.use 9 rfl (fun _ h => h) (.nil)))))))))))))))))) ?_
          refine WA.take (by kernel_rfl) 11 (by decide) rfl (by kernel_rfl) (by kernel_rfl) (by kernel_rfl) (Calm.then (calm_FQ _ _)) (Qt.to (Qt.eql rfl rfl) (congrArg Value.bool (decide_eq_true rfl))) ⟨85, rfl, rfl⟩ rfl (.take 0 rfl (.use 0 rfl (fun _ h => h) (.use 1 rfl (fun _ h => h) (.take 2 rfl (.use 2 rfl (fun _ h => h) (.take 3 rfl (.use 3 rfl (fun _ h => h) (.take 4 rfl (.use 4 rfl (fun _ h => h) (.take 5 rfl (.use 5 rfl (fun _ h => h) (.use 6 rfl (fun _ h => h) (.take 7 rfl (.use 7 rfl (fun _ h => h) (.take 8 rfl (.use 8 rfl (fun _ h => h) (.use 9 rfl (fun _ h => h) (.nil)))))))))))))))))) ?_
          refine WA.take (by kernel_rfl) 12 (by decide) rfl (by kernel_rfl) (by kernel_rfl) (by kernel_rfl) (Calm.then (calm_FQ _ _)) (Qt.pickT rfl rfl) trivial rfl (.take 0 rfl (.use 0 rfl (fun _ h => h) (.use 1 rfl (fun _ h => h) (.take 2 rfl (.use 2 rfl (fun _ h => h) (.take 3 rfl (.use 3 rfl (fun _ h => h) (.take 4 rfl (.use 4 rfl (fun _ h => h) (.take 5 rfl (.use 5 rfl (fun _ h => h) (.use 6 rfl (fun _ h => h) (.take 7 rfl (.use 7 rfl (fun _ h => h) (.take 8 rfl (.use 8 rfl (fun _ h => h) (.use 9 rfl (fun _ h => h) (.nil)))))))))))))))))) ?_
          refine WA.take (by kernel_rfl) 13 (by decide) rfl (by kernel_rfl) (by kernel_rfl) (by kernel_rfl) (Calm.then (calm_FQ _ _)) (Qt.move rfl) trivial rfl (.take 0 rfl (.use 0 rfl (fun _ h => h) (.use 1 rfl (fun _ h => h) (.take 2 rfl (.use 2 rfl (fun _ h => h) (.take 3 rfl (.use 3 rfl (fun _ h => h) (.take 4 rfl (.use 4 rfl (fun _ h => h) (.take 5 rfl (.use 5 rfl (fun _ h => h) (.use 6 rfl (fun _ h => h) (.take 7 rfl (.use 7 rfl (fun _ h => h) (.take 8 rfl (.use 8 rfl (fun _ h => h) (.use 9 rfl (fun _ h => h) (.nil)))))))))))))))))) ?_
          refine WA.take (by kernel_rfl) 14 (by decide) rfl (by kernel_rfl) (by kernel_rfl) (by kernel_rfl) (Calm.then (calm_FQ _ _)) (Qt.move rfl) ⟨89, rfl, rfl⟩ rfl (.take 0 rfl (.use 0 rfl (fun _ h => h) (.use 1 rfl (fun _ h => h) (.take 2 rfl (.use 2 rfl (fun _ h => h) (.take 3 rfl (.use 3 rfl (fun _ h => h) (.take 4 rfl (.use 4 rfl (fun _ h => h) (.take 5 rfl (.use 5 rfl (fun _ h => h) (.use 6 rfl (fun _ h => h) (.take 7 rfl (.use 7 rfl (fun _ h => h) (.take 8 rfl (.use 8 rfl (fun _ h => h) (.use 9 rfl (fun _ h => h) (.nil)))))))))))))))))) ?_
          refine WA.take (by kernel_rfl) 15 (by decide) rfl (by kernel_rfl) (by kernel_rfl) (by kernel_rfl) (Calm.then (calm_FQ _ _)) (Qt.to (Qt.eql rfl rfl) (congrArg Value.bool (decide_eq_true he2))) ⟨89, rfl, rfl⟩ rfl (.take 0 rfl (.use 0 rfl (fun _ h => h) (.use 1 rfl (fun _ h => h) (.take 2 rfl (.use 2 rfl (fun _ h => h) (.take 3 rfl (.use 3 rfl (fun _ h => h) (.take 4 rfl (.use 4 rfl (fun _ h => h) (.take 5 rfl (.use 5 rfl (fun _ h => h) (.use 6 rfl (fun _ h => h) (.take 7 rfl (.use 7 rfl (fun _ h => h) (.take 8 rfl (.use 8 rfl (fun _ h => h) (.use 9 rfl (fun _ h => h) (.nil)))))))))))))))))) ?_
          refine WA.take (by kernel_rfl) 16 (by decide) rfl (by kernel_rfl) (by kernel_rfl) (by kernel_rfl) (Calm.then (calm_FQ _ _)) (Qt.pickT rfl rfl) trivial rfl (.take 0 rfl (.use 0 rfl (fun _ h => h) (.use 1 rfl (fun _ h => h) (.take 2 rfl (.use 2 rfl (fun _ h => h) (.take 3 rfl (.use 3 rfl (fun _ h => h) (.take 4 rfl (.use 4 rfl (fun _ h => h) (.take 5 rfl (.use 5 rfl (fun _ h => h) (.use 6 rfl (fun _ h => h) (.take 7 rfl (.use 7 rfl (fun _ h => h) (.take 8 rfl (.use 8 rfl (fun _ h => h) (.use 9 rfl (fun _ h => h) (.nil)))))))))))))))))) ?_
          refine WA.take (by kernel_rfl) 17 (by decide) rfl (by kernel_rfl) (by kernel_rfl) (by kernel_rfl) (Calm.then (calm_FQ _ _)) (Qt.move rfl) trivial rfl (.take 0 rfl (.use 0 rfl (fun _ h => h) (.use 1 rfl (fun _ h => h) (.take 2 rfl (.use 2 rfl (fun _ h => h) (.take 3 rfl (.use 3 rfl (fun _ h => h) (.take 4 rfl (.use 4 rfl (fun _ h => h) (.take 5 rfl (.use 5 rfl (fun _ h => h) (.use 6 rfl (fun _ h => h) (.take 7 rfl (.use 7 rfl (fun _ h => h) (.take 8 rfl (.use 8 rfl (fun _ h => h) (.use 9 rfl (fun _ h => h) (.nil)))))))))))))))))) ?_
          refine WA.take (by kernel_rfl) 18 (by decide) rfl (by kernel_rfl) (by kernel_rfl) (by kernel_rfl) (Calm.then (calm_FQ _ _)) (Qt.loadBA 7 rfl ta24 ti24 rfl rfl) ⟨93, rfl, rfl⟩ rfl (.take 0 rfl (.use 0 rfl (fun _ h => h) (.use 1 rfl (fun _ h => h) (.take 2 rfl (.use 2 rfl (fun _ h => h) (.take 3 rfl (.use 3 rfl (fun _ h => h) (.take 4 rfl (.use 4 rfl (fun _ h => h) (.take 5 rfl (.use 5 rfl (fun _ h => h) (.use 6 rfl (fun _ h => h) (.take 7 rfl (.use 7 rfl (fun _ h => h) (.take 8 rfl (.use 8 rfl (fun _ h => h) (.use 9 rfl (fun _ h => h) (.nil)))))))))))))))))) ?_
          refine WA.take (by kernel_rfl) 19 (by decide) rfl (by kernel_rfl) (by kernel_rfl) (by kernel_rfl) (Calm.then (calm_FQ _ _)) (Qt.loadBA 3 rfl ta24 ti24 rfl rfl) ⟨93, rfl, rfl⟩ rfl (.take 0 rfl (.use 0 rfl (fun _ h => h) (.use 1 rfl (fun _ h => h) (.take 2 rfl (.use 2 rfl (fun _ h => h) (.take 3 rfl (.use 3 rfl (fun _ h => h) (.take 4 rfl (.use 4 rfl (fun _ h => h) (.take 5 rfl (.use 5 rfl (fun _ h => h) (.use 6 rfl (fun _ h => h) (.take 7 rfl (.use 7 rfl (fun _ h => h) (.take 8 rfl (.use 8 rfl (fun _ h => h) (.use 9 rfl (fun _ h => h) (.nil)))))))))))))))))) ?_
          refine WA.one 20 (by kernel_rfl) ?_
          refine WO.call rfl (.use 8 rfl (fun _ h => h) (.use 4 rfl (fun _ h => h) (.nil))) (Cl.func cb12 rfl) (equalW u_1 u_2 _ _ _ _) ⟨93, rfl, rfl⟩ rfl (by rintro _ _ ⟨rfl, rfl⟩; exact ⟨_, (.take 0 rfl (.use 0 rfl (fun _ h => h) (.use 1 rfl (fun _ h => h) (.take 2 rfl (.use 2 rfl (fun _ h => h) (.take 3 rfl (.use 3 rfl (fun _ h => h) (.take 4 rfl (.use 4 rfl (fun _ h => h) (.take 5 rfl (.use 5 rfl (fun _ h => h) (.use 6 rfl (fun _ h => h) (.take 7 rfl (.use 7 rfl (fun _ h => h) (.take 8 rfl (.use 8 rfl (fun _ h => h) (.use 9 rfl (fun _ h => h) (.nil))))))))))))))))))⟩) ?_
          rintro _ _ ⟨rfl, rfl⟩
          rw [hs1]
          refine WA.take (by kernel_rfl) 21 (by decide) rfl (by kernel_rfl) (by kernel_rfl) (by kernel_rfl) (Calm.then (calm_FQ _ _)) (Qt.pickT rfl rfl) trivial rfl (.take 0 rfl (.use 0 rfl (fun _ h => h) (.use 1 rfl (fun _ h => h) (.take 2 rfl (.use 2 rfl (fun _ h => h) (.take 3 rfl (.use 3 rfl (fun _ h => h) (.take 4 rfl (.use 4 rfl (fun _ h => h) (.take 5 rfl (.use 5 rfl (fun _ h => h) (.use 6 rfl (fun _ h => h) (.take 7 rfl (.use 7 rfl (fun _ h => h) (.take 8 rfl (.use 8 rfl (fun _ h => h) (.use 9 rfl (fun _ h => h) (.nil)))))))))))))))))) ?_
          refine WA.take (by kernel_rfl) 22 (by decide) rfl (by kernel_rfl) (by kernel_rfl) (by kernel_rfl) (Calm.then (calm_FQ _ _)) (Qt.move rfl) trivial rfl (.take 0 rfl (.use 0 rfl (fun _ h => h) (.use 1 rfl (fun _ h => h) (.take 2 rfl (.use 2 rfl (fun _ h => h) (.take 3 rfl (.use 3 rfl (fun _ h => h) (.take 4 rfl (.use 4 rfl (fun _ h => h) (.take 5 rfl (.use 5 rfl (fun _ h => h) (.use 6 rfl (fun _ h => h) (.take 7 rfl (.use 7 rfl (fun _ h => h) (.take 8 rfl (.use 8 rfl (fun _ h => h) (.use 9 rfl (fun _ h => h) (.nil)))))))))))))))))) ?_
          refine WA.take (by kernel_rfl) 23 (by decide) rfl (by kernel_rfl) (by kernel_rfl) (by kernel_rfl) (Calm.then (calm_FQ _ _)) (Qt.loadBA 7 rfl ta24 ti24 rfl rfl) ⟨98, rfl, rfl⟩ rfl (.take 0 rfl (.use 0 rfl (fun _ h => h) (.use 1 rfl (fun _ h => h) (.take 2 rfl (.use 2 rfl (fun _ h => h) (.take 3 rfl (.use 3 rfl (fun _ h => h) (.take 4 rfl (.use 4 rfl (fun _ h => h) (.take 5 rfl (.use 5 rfl (fun _ h => h) (.use 6 rfl (fun _ h => h) (.take 7 rfl (.use 7 rfl (fun _ h => h) (.take 8 rfl (.use 8 rfl (fun _ h => h) (.use 9 rfl (fun _ h => h) (.nil)))))))))))))))))) ?_
          refine WA.take (by kernel_rfl) 25 (by decide) rfl (by kernel_rfl) (by kernel_rfl) (by kernel_rfl) (Calm.then (calm_FQ _ _)) (Qt.loadBA 0 rfl ta31 ti31 rfl rfl) ⟨98, rfl, rfl⟩ rfl (.take 0 rfl (.use 0 rfl (fun _ h => h) (.use 1 rfl (fun _ h => h) (.take 2 rfl (.use 2 rfl (fun _ h => h) (.take 3 rfl (.use 3 rfl (fun _ h => h) (.take 4 rfl (.use 4 rfl (fun _ h => h) (.take 5 rfl (.use 5 rfl (fun _ h => h) (.use 6 rfl (fun _ h => h) (.take 7 rfl (.use 7 rfl (fun _ h => h) (.take 8 rfl (.use 8 rfl (fun _ h => h) (.use 9 rfl (fun _ h => h) (.nil)))))))))))))))))) ?_
          refine WA.one 24 (by kernel_rfl) ?_
          refine WO.call rfl (.use 8 rfl (fun _ h => h) (.nil)) (Cl.func cb7 rfl) (ofW u_1 _ _ (by omega)) ⟨98, rfl, rfl⟩ rfl (by rintro _ _ ⟨A_10, c_9, rfl, rfl⟩; exact ⟨_, (.take 1 rfl (.use 1 rfl (fun _ h => h) (.use 2 rfl (fun _ h => h) (.take 3 rfl (.use 3 rfl (fun _ h => h) (.take 4 rfl (.use 4 rfl (fun _ h => h) (.take 5 rfl (.use 5 rfl (fun _ h => h) (.take 6 rfl (.use 6 rfl (fun _ h => h) (.use 7 rfl (fun _ h => h) (.take 8 rfl (.use 8 rfl (fun _ h => h) (.take 9 rfl (.use 9 rfl (fun _ h => h) (.use 10 rfl (fun _ h => h) (.nil))))))))))))))))))⟩) ?_
          rintro _ _ ⟨A_10, c_9, rfl, rfl⟩
          refine WA.one 26 (by kernel_rfl) ?_
          refine WO.call rfl (.use 0 rfl (fun _ h => h) (.use 2 rfl (fun _ h => h) (.nil))) (Cl.func cb13 rfl) (equalR u_1 (sortedR t) _ _ _ _) ⟨98, rfl, rfl⟩ rfl (by rintro _ _ ⟨rfl, rfl⟩; exact ⟨_, (.take 1 rfl (.use 1 rfl (fun _ h => h) (.use 2 rfl (fun _ h => h) (.take 3 rfl (.use 3 rfl (fun _ h => h) (.take 4 rfl (.use 4 rfl (fun _ h => h) (.take 5 rfl (.use 5 rfl (fun _ h => h) (.take 6 rfl (.use 6 rfl (fun _ h => h) (.use 7 rfl (fun _ h => h) (.take 8 rfl (.use 8 rfl (fun _ h => h) (.take 9 rfl (.use 9 rfl (fun _ h => h) (.use 10 rfl (fun _ h => h) (.nil))))))))))))))))))⟩) ?_
          rintro _ _ ⟨rfl, rfl⟩
          rw [hs2]
          refine WA.take (by kernel_rfl) 27 (by decide) rfl (by kernel_rfl) (by kernel_rfl) (by kernel_rfl) (Calm.then (calm_FQ _ _)) (Qt.pickT rfl rfl) trivial rfl (.take 1 rfl (.use 1 rfl (fun _ h => h) (.use 2 rfl (fun _ h => h) (.take 3 rfl (.use 3 rfl (fun _ h => h) (.take 4 rfl (.use 4 rfl (fun _ h => h) (.take 5 rfl (.use 5 rfl (fun _ h => h) (.take 6 rfl (.use 6 rfl (fun _ h => h) (.use 7 rfl (fun _ h => h) (.take 8 rfl (.use 8 rfl (fun _ h => h) (.take 9 rfl (.use 9 rfl (fun _ h => h) (.use 10 rfl (fun _ h => h) (.nil)))))))))))))))))) ?_
          refine WA.phase (K' := [0, 1, 2, 3, 4, 5, 6, 7, 8, 9, 10, 11, 12, 13, 14, 15, 16, 17, 18, 19, 20, 21, 22, 23, 24, 25, 26, 27, 28]) (Γq' := [rd kTree A_10 c_9 u_1.kids, blk b_7 31 [.int .i64 ((sortedR t).kind), .int .i64 ((sortedR t).n), .slice A_9 ((sortedR t).kids.length) c_8], rd kTree A_9 c_8 ((sortedR t).kids), rd kTree A_8 c_7 t.kids, blk b_6 24 [.int .i64 u_2.kind, .int .i64 u_2.n, .slice A_7 u_2.kids.length c_6], rd kTree A_7 c_6 u_2.kids, blk b_5 42 [.string (⟨#[]⟩ : ByteArray), .slice A_6 ((layT u_1 sL sR (0, l)).2.length) c_5, .slice none 0 0, .string (⟨#[]⟩ : ByteArray)], rd kContact A_6 c_5 ((layT u_1 sL sR (0, l)).2), blk b_4 24 [.int .i64 u_1.kind, .int .i64 u_1.n, .slice A_5 u_1.kids.length c_4], rd kTree A_5 c_4 u_1.kids, blk b_3 42 [.string (⟨#[]⟩ : ByteArray), .slice A_4 ((layT t sL sR (0, l)).2.length) c_3, .slice none 0 0, .string (⟨#[]⟩ : ByteArray)], rd kContact A_4 c_3 ((layT t sL sR (0, l)).2), rd kContact (some ⟨b_2, 0, none⟩) t.leaves.length l, row kInt 3 A_2 c_2 t.leaves, rd kTree A_1 c_1 t.kids, blk b_1 24 [.int .i64 t.kind, .int .i64 t.n, .slice A t.kids.length c], rd kTree A c t.kids, cellsAt (⟨0, 0, none⟩ : Addr) [.int .u8 0, .int .u8 0, .int .u8 91, .int .u8 93, .int .u8 123, .int .u8 125]]) (by kernel_rfl) ?_
          refine WA.take (by kernel_rfl) 28 (by decide) rfl (by kernel_rfl) (by kernel_rfl) (by kernel_rfl) (Calm.then (calm_FQ _ _)) (Qt.assign rfl) trivial rfl (.use 0 rfl (fun _ h => h) (.take 1 rfl (.use 1 rfl (fun _ h => h) (.use 2 rfl (fun _ h => h) (.take 3 rfl (.use 3 rfl (fun _ h => h) (.take 4 rfl (.use 4 rfl (fun _ h => h) (.take 5 rfl (.use 5 rfl (fun _ h => h) (.take 6 rfl (.use 6 rfl (fun _ h => h) (.use 7 rfl (fun _ h => h) (.take 8 rfl (.use 8 rfl (fun _ h => h) (.take 9 rfl (.use 9 rfl (fun _ h => h) (.use 10 rfl (fun _ h => h) (.nil))))))))))))))))))) ?_
          refine WA.done (by kernel_rfl) ?_
          refine WX.next ?_
          refine WC.ret ?_
          refine WX.ret1 (.nil) rfl rfl ?_
          exact ⟨rfl, rfl⟩

end Go.Proofs.YtkhmbhdlfpalkaaGreatDoor.Sep
