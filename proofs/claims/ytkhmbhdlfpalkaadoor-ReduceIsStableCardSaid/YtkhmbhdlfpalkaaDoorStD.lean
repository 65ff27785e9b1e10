/- Texts of this proof, joined: what is of no program, and the walks of its functions -/
import Derived.Test.YtkhmbhdlfpalkaaDoorStC
set_option autoImplicit false
set_option linter.unusedVariables false
set_option linter.unusedSimpArgs false
set_option linter.unusedSectionVars false
set_option maxRecDepth 100000
/- A walk, printed by gen.py out of hints. -/
namespace Go.Proofs.YtkhmbhdlfpalkaaDoor.Sep
open Go
variable {μ : Prop}
theorem indexTreeW (xs : List PT) (A : Option Addr) (c fid : Nat) (us : List Value) (F : Fact) (p : PT → Bool) (hcall : Callable Tryd.prog fid) (hf : ∀ (k : Nat) (hk : k < xs.length) (A : Option Addr) (c : Nat), Spec μ Tryd.prog fid ([Value.agg [.int .i64 xs[k].kind, .int .i64 xs[k].n, .slice A xs[k].kids.length c].toArray] ++ us).toArray [rd kTree A c xs[k].kids, F] fun v Δ => v = .bool (p xs[k]) ∧ Δ = [F]) : Spec μ Tryd.prog 55 #[.slice A xs.length c, .func (.func fid) #[] us.toArray] [rd kTree A c xs, F] fun v Δ => v = .int .i64 (idxF p xs) ∧ Δ = [F] := by
  refine Spec.of_body (n := 19) Tryd.func55 rfl rfl rfl fun w0 S0 O0 => ?_
  show WC _ _ _ _ _ _ [(0, .slice A xs.length c), (1, .func (.func fid) #[] us.toArray)] [rd kTree A c xs, F]
  refine WC.learn (Z := Unit) (Δ := fun _ => []) (φ := fun _ => xs.length ≤ c ∧ c ≤ 9223372036854775807) 0 rfl (fun S w h => ⟨(), rd_bounds h, nofacts⟩) ?_
  rintro _ ⟨hb_1, hb_2⟩
  refine WC.seq ?_
  refine WC.region ?_
  refine WL.quiet (Qt.assign rfl) rfl rfl ?_
  refine WL.nil ?_
  refine WX.next ?_
  refine WC.seq ?_
  refine WC.seq ?_
  refine WC.region ?_
  refine WL.quiet (Qt.move rfl) rfl rfl ?_
  refine WL.quiet (Qt.lenS Tryd.underlying28 rfl) rfl rfl ?_
  refine WL.quiet (Qt.move rfl) rfl rfl ?_
  refine WL.nil ?_
  refine WX.next ?_
  refine WC.block ?_
  refine WC.loop (fun w0 : Nat => [(0, .slice A xs.length c), (1, .func (.func fid) #[] us.toArray), (4, .int .i64 0), (7, .int .i64 ((xs.length : Nat) : Int)), (8, .int .i64 ((w0 : Nat) : Int))]) (fun w0 => [rd kTree A c xs, F]) (fun w0 => w0 ≤ xs.length ∧ ∀ (j : Nat) (hj : j < xs.length), j < w0 → p xs[j] = false) (fun w0 => xs.length - w0) 0 ⟨Nat.zero_le _, fun j _ h => absurd h (Nat.not_lt_zero _)⟩ ⟨rfl, rfl, rfl, rfl, rfl, trivial⟩ (.use 0 rfl (fun _ h => h) (.take 1 rfl (.nil))) ?_
  rintro k ⟨hk, hb⟩
  try dsimp only at hk hb
  show WC _ _ _ _ _ _ [(0, .slice A xs.length c), (1, .func (.func fid) #[] us.toArray), (4, .int .i64 0), (7, .int .i64 ((xs.length : Nat) : Int)), (8, .int .i64 ((k : Nat) : Int))] [rd kTree A c xs, F]
  refine WC.seq ?_
  refine WC.region ?_
  refine WL.quiet (Qt.lss rfl rfl) rfl rfl ?_
  refine WL.nil ?_
  refine WX.next ?_
  refine WC.seq ?_
  refine WC.condD rfl (fun hc_1 => ?_) (fun hc_1 => ?_)
  ·
    refine WC.skip ?_
    refine WX.next ?_
    refine WC.seq ?_
    refine WC.block ?_
    refine WC.seq ?_
    refine WC.region ?_
    refine WL.quiet (Qt.move rfl) rfl rfl ?_
    refine WL.quiet (Qt.assign rfl) rfl rfl ?_
    refine WL.nil ?_
    refine WX.next ?_
    refine WC.seq ?_
    refine WC.region ?_
    refine WL.quiet (Qt.move rfl) rfl rfl ?_
    refine WL.quiet (Qt.move rfl) rfl rfl ?_
    refine WL.quiet (Qt.move rfl) rfl rfl ?_
    have hj_1 : k < xs.length := by omega
    refine WL.learn 0 rfl (rd_at k hj_1 (vTree _)) ?_
    rintro ⟨p_1, ⟨A_1, c_1⟩⟩ hA_1
    refine WL.quiet (Qt.indexAddrE k hA_1 Tryd.underlying28 ti30 rfl rfl (by first | assumption | omega)) rfl rfl ?_
    refine WL.quiet (Qt.loadCA (p := p_1.add (k * 3)) (o := 0) 0 rfl ta30 ti30 rfl rfl) rfl rfl ?_
    refine WL.call (.use 1 rfl (fun _ h => h) (.take 3 rfl (.nil))) (Cl.val hcall rfl rfl) (hf k _ _ _) trivial rfl ?_
    rintro _ _ ⟨rfl, rfl⟩
    refine WL.nil ?_
    refine WX.next ?_
    refine WC.cond rfl (fun hc_2 => ?_) (fun hc_2 => ?_)
    ·
      refine WC.seq ?_
      refine WC.region ?_
      refine WL.quiet (Qt.move rfl) rfl rfl ?_
      refine WL.quiet (Qt.assign rfl) rfl rfl ?_
      refine WL.nil ?_
      refine WX.next ?_
      refine WC.ret ?_
      refine WX.block_ret ?_
      refine WX.pass_ret ?_
      refine WX.pass_ret ?_
      refine WX.block_ret ?_
      refine WX.pass_ret ?_
      refine WX.ret1 (.take 0 rfl (.nil)) rfl rfl ?_
      exact ⟨by rw [idxF_at (by omega) hc_2 hb], rfl⟩
    ·
      refine WC.skip ?_
      refine WX.block_end ?_
      refine WX.next ?_
      refine WC.region ?_
      refine WL.quiet (Qt.add rfl rfl (by omega)) rfl rfl ?_
      refine WL.quiet (Qt.move rfl) rfl rfl ?_
      refine WL.nil ?_
      exact WX.back (k + 1) ⟨by omega, notyet hb (by omega) hc_2⟩ (by first | omega | (dsimp only; omega) | (simp; omega)) ⟨rfl, rfl, rfl, rfl, rfl, trivial⟩ (.use 3 rfl (fun _ h => h) (.take 0 rfl (.nil)))
  ·
    refine WC.exit ?_
    refine WX.pass_exit ?_
    refine WX.pass_exit ?_
    refine WX.block_exit ?_
    refine WX.next ?_
    refine WC.seq ?_
    refine WC.region ?_
    refine WL.quiet (Qt.assign rfl) rfl rfl ?_
    refine WL.nil ?_
    refine WX.next ?_
    refine WC.ret ?_
    refine WX.ret1 (.take 1 rfl (.nil)) rfl rfl ?_
    exact ⟨by rw [idxF_none (fun j hj => hb j hj (by omega))], rfl⟩

end Go.Proofs.YtkhmbhdlfpalkaaDoor.Sep

/- A walk, printed by gen.py out of hints. -/
namespace Go.Proofs.YtkhmbhdlfpalkaaDoor.Sep
open Go
variable {μ : Prop}
theorem containsTreeW (xs : List PT) (A : Option Addr) (c fid : Nat) (us : List Value) (F : Fact) (p : PT → Bool) (hcall : Callable Tryd.prog fid) (hf : ∀ (k : Nat) (hk : k < xs.length) (A : Option Addr) (c : Nat), Spec μ Tryd.prog fid ([Value.agg [.int .i64 xs[k].kind, .int .i64 xs[k].n, .slice A xs[k].kids.length c].toArray] ++ us).toArray [rd kTree A c xs[k].kids, F] fun v Δ => v = .bool (p xs[k]) ∧ Δ = [F]) : Spec μ Tryd.prog 34 #[.slice A xs.length c, .func (.func fid) #[] us.toArray] [rd kTree A c xs, F] fun v Δ => v = .bool (xs.any p) ∧ Δ = [F] := by
  refine Spec.of_body (n := 9) Tryd.func34 rfl rfl rfl fun w0 S0 O0 => ?_
  show WC _ _ _ _ _ _ [(0, .slice A xs.length c), (1, .func (.func fid) #[] us.toArray)] [rd kTree A c xs, F]
  refine WC.seq ?_
  refine WC.region ?_
  refine WL.quiet (Qt.assign rfl) rfl rfl ?_
  refine WL.nil ?_
  refine WX.next ?_
  refine WC.seq ?_
  refine WC.region ?_
  refine WL.quiet (Qt.move rfl) rfl rfl ?_
  refine WL.quiet (Qt.move rfl) rfl rfl ?_
  refine WL.call (.use 0 rfl (fun _ h => h) (.take 1 rfl (.nil))) (Cl.func cb55 rfl) (indexTreeW xs _ _ fid us F p hcall hf) trivial rfl ?_
  rintro _ _ ⟨rfl, rfl⟩
  refine WL.quiet (Qt.geq rfl rfl) rfl rfl ?_
  refine WL.quiet (Qt.assign rfl) rfl rfl ?_
  refine WL.nil ?_
  refine WX.next ?_
  refine WC.ret ?_
  refine WX.ret1 (.take 0 rfl (.nil)) rfl rfl ?_
  exact ⟨by rw [← idxF_any], rfl⟩

end Go.Proofs.YtkhmbhdlfpalkaaDoor.Sep

/- A walk, printed by gen.py out of hints. -/
namespace Go.Proofs.YtkhmbhdlfpalkaaDoor.Sep
open Go
variable {μ : Prop}
theorem sameKindW (x t : PT) (A B : Option Addr) (c d b : Nat)  : Spec μ Tryd.prog 35 #[.agg [.int .i64 x.kind, .int .i64 x.n, .slice A x.kids.length c].toArray, .pointer (some ⟨b, 0, none⟩)] [rd kTree A c x.kids, blk b 30 [.int .i64 t.kind, .int .i64 t.n, .slice B t.kids.length d]] fun v Δ => v = .bool (decide (x.kind = t.kind)) ∧ Δ = [blk b 30 [.int .i64 t.kind, .int .i64 t.n, .slice B t.kids.length d]] := by
  refine Spec.of_body (n := 9) Tryd.func35 rfl rfl rfl fun w0 S0 O0 => ?_
  show WC _ _ _ _ _ _ [(0, .agg [.int .i64 x.kind, .int .i64 x.n, .slice A x.kids.length c].toArray), (1, .pointer (some ⟨b, 0, none⟩))] [rd kTree A c x.kids, blk b 30 [.int .i64 t.kind, .int .i64 t.n, .slice B t.kids.length d]]
  refine WC.seq ?_
  refine WC.region ?_
  refine WL.loud (.nil) (Ld.box rfl rfl) trivial rfl ?_
  rintro _ _ ⟨b_1, rfl, rfl⟩
  refine WL.quiet (Qt.assign rfl) rfl rfl ?_
  refine WL.nil ?_
  refine WX.next ?_
  refine WC.seq ?_
  refine WC.region ?_
  refine WL.quiet (Qt.fieldAddrB tf30_0 rfl) rfl rfl ?_
  refine WL.quiet (Qt.loadB 0 rfl ta3 rfl rfl) rfl rfl ?_
  refine WL.quiet (Qt.fieldAddrB tf30_0 rfl) rfl rfl ?_
  refine WL.quiet (Qt.loadB 2 rfl ta3 rfl rfl) rfl rfl ?_
  refine WL.quiet (Qt.eql rfl rfl) rfl rfl ?_
  refine WL.quiet (Qt.assign rfl) rfl rfl ?_
  refine WL.nil ?_
  refine WX.next ?_
  refine WC.ret ?_
  refine WX.ret1 (.take 2 rfl (.nil)) rfl rfl ?_
  exact ⟨rfl, rfl⟩

end Go.Proofs.YtkhmbhdlfpalkaaDoor.Sep

/- A walk, printed by gen.py out of hints. -/
namespace Go.Proofs.YtkhmbhdlfpalkaaDoor.Sep
open Go
variable {μ : Prop}
theorem checkW_ih (m : Nat) : ∀ (t : PT) (many : Int) (ks : List Int) (A : Option Addr) (c b : Nat), SizeOf.sizeOf t < m → Spec μ Tryd.prog 20 #[.agg [.int .i64 t.kind, .int .i64 t.n, .slice A t.kids.length c].toArray, .int .i64 many, .map (some b)] [rd kTree A c t.kids, mp intKey Value.bool b (trues ks)] fun v Δ => ∃ (e : Int) (ks1 : List Int), v = .int .i64 e ∧ Δ = [mp intKey Value.bool b (trues ks1)] ∧ (e = 0 → Vld many ks t ∧ ks1 = ks ++ t.leaves) ∧ (Vld many ks t → e = 0) := by
  induction m with
  | zero => exact fun t many ks A c b h => absurd h (Nat.not_lt_zero _)
  | succ m ih =>
  intro t many ks A c b hsz 
  refine Spec.of_body (n := 96) Tryd.func20 rfl rfl rfl fun w0 S0 O0 => ?_
  show WC _ _ _ _ _ _ [(0, .agg [.int .i64 t.kind, .int .i64 t.n, .slice A t.kids.length c].toArray), (1, .int .i64 many), (2, .map (some b))] [rd kTree A c t.kids, mp intKey Value.bool b (trues ks)]
  refine WC.learn (Z := Unit) (Δ := fun _ => []) (φ := fun _ => t.kids.length ≤ c ∧ c ≤ 9223372036854775807) 0 rfl (fun S w h => ⟨(), rd_bounds h, nofacts⟩) ?_
  rintro _ ⟨hb_1, hb_2⟩
  refine WC.seq ?_
  refine WC.region ?_
  refine WL.loud (.nil) (Ld.box rfl rfl) trivial rfl ?_
  rintro _ _ ⟨b_1, rfl, rfl⟩
  refine WL.quiet (Qt.assign rfl) rfl rfl ?_
  refine WL.nil ?_
  refine WX.next ?_
  refine WC.seq ?_
  refine WC.block ?_
  refine WC.cut (fun _ : Unit => [(1, .int .i64 many), (2, .map (some b)), (3, .pointer (some ⟨b_1, 0, none⟩)), (6, .int .i64 0), (10, .bool (decide (((t.kind : Int) < 0) ∨ ((t.kind : Int) > 2))))]) (fun _ => [blk b_1 30 [.int .i64 t.kind, .int .i64 t.n, .slice A t.kids.length c], rd kTree A c t.kids, mp intKey Value.bool b (trues ks)]) (fun _ => True) ?_ ?_
  ·
    refine WC.region ?_
    refine WL.quiet (Qt.fieldAddrB tf30_0 rfl) rfl rfl ?_
    refine WL.quiet (Qt.loadB 0 rfl ta3 rfl rfl) rfl rfl ?_
    refine WL.quiet (Qt.lss rfl rfl) rfl rfl ?_
    refine WL.quiet (Qt.move rfl) rfl rfl ?_
    refine WL.splitD 14 rfl rfl (fun hg_1 => ?_) (fun hg_1 => ?_)
    ·
      refine WL.skipG 3 false true rfl 14 rfl rfl rfl rfl ?_
      refine WL.skipG 3 false true rfl 14 rfl rfl rfl rfl ?_
      refine WL.skipG 3 false true rfl 14 rfl rfl rfl rfl ?_
      refine WL.quiet (Qt.pickT rfl rfl) rfl rfl ?_
      refine WL.quiet (Qt.assign rfl) rfl rfl ?_
      refine WL.nil ?_
      exact WX.cut () trivial ⟨rfl, rfl, rfl, rfl, (by rw [show decide (((t.kind : Int) < 0) ∨ ((t.kind : Int) > 2)) = true from by first | (simp [hg_1]; done) | exact decide_eq_decide.2 (by omega) | exact decide_eq_true (by omega) | exact decide_eq_false (by omega) | (simp [hg_1] <;> omega)]; rfl), trivial⟩ (.take 0 rfl (.use 0 rfl (fun _ h => h) (.take 1 rfl (.nil))))
    ·
      refine WL.quietG 3 false rfl 14 rfl rfl (Qt.fieldAddrB tf30_0 rfl) rfl ?_
      refine WL.quietG 3 false rfl 14 rfl rfl (Qt.loadB 0 rfl ta3 rfl rfl) rfl ?_
      refine WL.quietG 3 false rfl 14 rfl rfl (Qt.gtr rfl rfl) rfl ?_
      refine WL.quiet (Qt.pickF rfl rfl) rfl rfl ?_
      refine WL.quiet (Qt.assign rfl) rfl rfl ?_
      refine WL.nil ?_
      exact WX.cut () trivial ⟨rfl, rfl, rfl, rfl, (by rw [show decide (((t.kind : Int) < 0) ∨ ((t.kind : Int) > 2)) = (decide ((t.kind : Int) > 2)) from by first | (simp [hg_1]; done) | exact decide_eq_decide.2 (by omega) | exact decide_eq_true (by omega) | exact decide_eq_false (by omega) | (simp [hg_1] <;> omega)]; rfl), trivial⟩ (.take 0 rfl (.use 0 rfl (fun _ h => h) (.take 1 rfl (.nil))))
  ·
    intro _ _
    show WC _ _ _ _ _ _ [(1, .int .i64 many), (2, .map (some b)), (3, .pointer (some ⟨b_1, 0, none⟩)), (6, .int .i64 0), (10, .bool (decide (((t.kind : Int) < 0) ∨ ((t.kind : Int) > 2))))] [blk b_1 30 [.int .i64 t.kind, .int .i64 t.n, .slice A t.kids.length c], rd kTree A c t.kids, mp intKey Value.bool b (trues ks)]
    refine WC.condD rfl (fun hc_1 => ?_) (fun hc_1 => ?_)
    ·
      refine WC.seq ?_
      refine WC.region ?_
      refine WL.quiet (Qt.assign rfl) rfl rfl ?_
      refine WL.nil ?_
      refine WX.next ?_
      refine WC.ret ?_
      refine WX.block_ret ?_
      refine WX.pass_ret ?_
      refine WX.ret1 (.take 2 rfl (.nil)) rfl rfl ?_
      exact ⟨_, _, rfl, rfl, fun h => absurd h (by decide), fun hv => by have hs := hv.shape; omega⟩
    ·
      refine WC.cut (fun _ : Unit => [(1, .int .i64 many), (2, .map (some b)), (3, .pointer (some ⟨b_1, 0, none⟩)), (6, .int .i64 0), (19, .bool (decide ((((t.kind : Int) = 0) ∧ (((t.kids.length : Nat) : Int) > 0)) ∨ (((t.kind : Int) ≠ 0) ∧ ((t.n : Int) ≠ 0)))))]) (fun _ => [blk b_1 30 [.int .i64 t.kind, .int .i64 t.n, .slice A t.kids.length c], rd kTree A c t.kids, mp intKey Value.bool b (trues ks)]) (fun _ => True) ?_ ?_
      ·
        refine WC.region ?_
        refine WL.quiet (Qt.fieldAddrB tf30_0 rfl) rfl rfl ?_
        refine WL.quiet (Qt.loadB 0 rfl ta3 rfl rfl) rfl rfl ?_
        refine WL.quiet (Qt.eql rfl rfl) rfl rfl ?_
        refine WL.quiet (Qt.move rfl) rfl rfl ?_
        refine WL.splitD 23 rfl rfl (fun hg_2 => ?_) (fun hg_2 => ?_)
        ·
          refine WL.quietG 3 true rfl 23 rfl rfl (Qt.fieldAddrB tf30_2 rfl) rfl ?_
          refine WL.quietG 3 true rfl 23 rfl rfl (Qt.loadB 0 rfl ta28 rfl rfl) rfl ?_
          refine WL.quietG 3 true rfl 23 rfl rfl (Qt.lenS Tryd.underlying28 rfl) rfl ?_
          refine WL.quietG 3 true rfl 23 rfl rfl (Qt.gtr rfl rfl) rfl ?_
          refine WL.quiet (Qt.pickT rfl rfl) rfl rfl ?_
          refine WL.quiet (Qt.move rfl) rfl rfl ?_
          refine WL.splitD 29 rfl rfl (fun hg_3 => ?_) (fun hg_3 => ?_)
          ·
            refine WL.skipG 9 false true rfl 29 rfl rfl rfl rfl ?_
            refine WL.skipG 9 false true rfl 29 rfl rfl rfl rfl ?_
            refine WL.skipG 9 false true rfl 29 rfl rfl rfl rfl ?_
            refine WL.skipG 9 false true rfl 29 rfl rfl rfl rfl ?_
            refine WL.skipU 13 true rfl 33 rfl rfl rfl ?_
            refine WL.skipU 13 true rfl 33 rfl rfl rfl ?_
            refine WL.skipU 13 true rfl 33 rfl rfl rfl ?_
            refine WL.skipG 9 false true rfl 29 rfl rfl rfl rfl ?_
            refine WL.quiet (Qt.pickT rfl rfl) rfl rfl ?_
            refine WL.quiet (Qt.assign rfl) rfl rfl ?_
            refine WL.nil ?_
            exact WX.cut () trivial ⟨rfl, rfl, rfl, rfl, (by rw [show decide ((((t.kind : Int) = 0) ∧ (((t.kids.length : Nat) : Int) > 0)) ∨ (((t.kind : Int) ≠ 0) ∧ ((t.n : Int) ≠ 0))) = true from by first | (simp [hg_2, hg_3]; done) | exact decide_eq_decide.2 (by omega) | exact decide_eq_true (by omega) | exact decide_eq_false (by omega) | (simp [hg_2, hg_3] <;> omega)]; rfl), trivial⟩ (.take 0 rfl (.use 0 rfl (fun _ h => h) (.take 1 rfl (.nil))))
          ·
            refine WL.quietG 9 false rfl 29 rfl rfl (Qt.fieldAddrB tf30_0 rfl) rfl ?_
            refine WL.quietG 9 false rfl 29 rfl rfl (Qt.loadB 0 rfl ta3 rfl rfl) rfl ?_
            refine WL.quietG 9 false rfl 29 rfl rfl (Qt.neq rfl rfl) rfl ?_
            refine WL.quietG 9 false rfl 29 rfl rfl (Qt.move rfl) rfl ?_
            refine WL.splitD 33 rfl rfl (fun hg_4 => ?_) (fun hg_4 => ?_)
            ·
              refine WL.quietG 13 true rfl 33 rfl rfl (Qt.fieldAddrB tf30_1 rfl) rfl ?_
              refine WL.quietG 13 true rfl 33 rfl rfl (Qt.loadB 0 rfl ta3 rfl rfl) rfl ?_
              refine WL.quietG 13 true rfl 33 rfl rfl (Qt.neq rfl rfl) rfl ?_
              refine WL.quietG 9 false rfl 29 rfl rfl (Qt.pickT rfl rfl) rfl ?_
              refine WL.quiet (Qt.pickF rfl rfl) rfl rfl ?_
              refine WL.quiet (Qt.assign rfl) rfl rfl ?_
              refine WL.nil ?_
              exact WX.cut () trivial ⟨rfl, rfl, rfl, rfl, (by rw [show decide ((((t.kind : Int) = 0) ∧ (((t.kids.length : Nat) : Int) > 0)) ∨ (((t.kind : Int) ≠ 0) ∧ ((t.n : Int) ≠ 0))) = (decide ((t.n : Int) ≠ 0)) from by first | (simp [hg_2, hg_3, hg_4]; done) | exact decide_eq_decide.2 (by omega) | exact decide_eq_true (by omega) | exact decide_eq_false (by omega) | (simp [hg_2, hg_3, hg_4] <;> omega)]; rfl), trivial⟩ (.take 0 rfl (.use 0 rfl (fun _ h => h) (.take 1 rfl (.nil))))
            ·
              refine WL.skipG 13 true false rfl 33 rfl rfl rfl rfl ?_
              refine WL.skipG 13 true false rfl 33 rfl rfl rfl rfl ?_
              refine WL.skipG 13 true false rfl 33 rfl rfl rfl rfl ?_
              refine WL.quietG 9 false rfl 29 rfl rfl (Qt.pickF rfl rfl) rfl ?_
              refine WL.quiet (Qt.pickF rfl rfl) rfl rfl ?_
              refine WL.quiet (Qt.assign rfl) rfl rfl ?_
              refine WL.nil ?_
              exact WX.cut () trivial ⟨rfl, rfl, rfl, rfl, (by rw [show decide ((((t.kind : Int) = 0) ∧ (((t.kids.length : Nat) : Int) > 0)) ∨ (((t.kind : Int) ≠ 0) ∧ ((t.n : Int) ≠ 0))) = false from by first | (simp [hg_2, hg_3, hg_4]; done) | exact decide_eq_decide.2 (by omega) | exact decide_eq_true (by omega) | exact decide_eq_false (by omega) | (simp [hg_2, hg_3, hg_4] <;> omega)]; rfl), trivial⟩ (.take 0 rfl (.use 0 rfl (fun _ h => h) (.take 1 rfl (.nil))))
        ·
          refine WL.skipG 3 true false rfl 23 rfl rfl rfl rfl ?_
          refine WL.skipG 3 true false rfl 23 rfl rfl rfl rfl ?_
          refine WL.skipG 3 true false rfl 23 rfl rfl rfl rfl ?_
          refine WL.skipG 3 true false rfl 23 rfl rfl rfl rfl ?_
          refine WL.quiet (Qt.pickF rfl rfl) rfl rfl ?_
          refine WL.quiet (Qt.move rfl) rfl rfl ?_
          refine WL.quietG 9 false rfl 29 rfl rfl (Qt.fieldAddrB tf30_0 rfl) rfl ?_
          refine WL.quietG 9 false rfl 29 rfl rfl (Qt.loadB 0 rfl ta3 rfl rfl) rfl ?_
          refine WL.quietG 9 false rfl 29 rfl rfl (Qt.neq rfl rfl) rfl ?_
          refine WL.quietG 9 false rfl 29 rfl rfl (Qt.move rfl) rfl ?_
          refine WL.splitD 33 rfl rfl (fun hg_5 => ?_) (fun hg_5 => ?_)
          ·
            refine WL.quietG 13 true rfl 33 rfl rfl (Qt.fieldAddrB tf30_1 rfl) rfl ?_
            refine WL.quietG 13 true rfl 33 rfl rfl (Qt.loadB 0 rfl ta3 rfl rfl) rfl ?_
            refine WL.quietG 13 true rfl 33 rfl rfl (Qt.neq rfl rfl) rfl ?_
            refine WL.quietG 9 false rfl 29 rfl rfl (Qt.pickT rfl rfl) rfl ?_
            refine WL.quiet (Qt.pickF rfl rfl) rfl rfl ?_
            refine WL.quiet (Qt.assign rfl) rfl rfl ?_
            refine WL.nil ?_
            exact WX.cut () trivial ⟨rfl, rfl, rfl, rfl, (by rw [show decide ((((t.kind : Int) = 0) ∧ (((t.kids.length : Nat) : Int) > 0)) ∨ (((t.kind : Int) ≠ 0) ∧ ((t.n : Int) ≠ 0))) = (decide ((t.n : Int) ≠ 0)) from by first | (simp [hg_2, hg_5]; done) | exact decide_eq_decide.2 (by omega) | exact decide_eq_true (by omega) | exact decide_eq_false (by omega) | (simp [hg_2, hg_5] <;> omega)]; rfl), trivial⟩ (.take 0 rfl (.use 0 rfl (fun _ h => h) (.take 1 rfl (.nil))))
          ·
            refine WL.skipG 13 true false rfl 33 rfl rfl rfl rfl ?_
            refine WL.skipG 13 true false rfl 33 rfl rfl rfl rfl ?_
            refine WL.skipG 13 true false rfl 33 rfl rfl rfl rfl ?_
            refine WL.quietG 9 false rfl 29 rfl rfl (Qt.pickF rfl rfl) rfl ?_
            refine WL.quiet (Qt.pickF rfl rfl) rfl rfl ?_
            refine WL.quiet (Qt.assign rfl) rfl rfl ?_
            refine WL.nil ?_
            exact WX.cut () trivial ⟨rfl, rfl, rfl, rfl, (by rw [show decide ((((t.kind : Int) = 0) ∧ (((t.kids.length : Nat) : Int) > 0)) ∨ (((t.kind : Int) ≠ 0) ∧ ((t.n : Int) ≠ 0))) = false from by first | (simp [hg_2, hg_5]; done) | exact decide_eq_decide.2 (by omega) | exact decide_eq_true (by omega) | exact decide_eq_false (by omega) | (simp [hg_2, hg_5] <;> omega)]; rfl), trivial⟩ (.take 0 rfl (.use 0 rfl (fun _ h => h) (.take 1 rfl (.nil))))
      ·
        intro _ _
        show WC _ _ _ _ _ _ [(1, .int .i64 many), (2, .map (some b)), (3, .pointer (some ⟨b_1, 0, none⟩)), (6, .int .i64 0), (19, .bool (decide ((((t.kind : Int) = 0) ∧ (((t.kids.length : Nat) : Int) > 0)) ∨ (((t.kind : Int) ≠ 0) ∧ ((t.n : Int) ≠ 0)))))] [blk b_1 30 [.int .i64 t.kind, .int .i64 t.n, .slice A t.kids.length c], rd kTree A c t.kids, mp intKey Value.bool b (trues ks)]
        refine WC.condD rfl (fun hc_2 => ?_) (fun hc_2 => ?_)
        ·
          refine WC.seq ?_
          refine WC.region ?_
          refine WL.quiet (Qt.assign rfl) rfl rfl ?_
          refine WL.nil ?_
          refine WX.next ?_
          refine WC.ret ?_
          refine WX.block_ret ?_
          refine WX.pass_ret ?_
          refine WX.ret1 (.take 2 rfl (.nil)) rfl rfl ?_
          exact ⟨_, _, rfl, rfl, fun h => absurd h (by decide), fun hv => by have hs := hv.shape; omega⟩
        ·
          refine WC.cut (fun _ : Unit => [(1, .int .i64 many), (2, .map (some b)), (3, .pointer (some ⟨b_1, 0, none⟩)), (6, .int .i64 0), (39, .bool (decide (((t.kind : Int) = 0) ∧ (((t.n : Int) < 0) ∨ ((t.n : Int) ≥ many)))))]) (fun _ => [blk b_1 30 [.int .i64 t.kind, .int .i64 t.n, .slice A t.kids.length c], rd kTree A c t.kids, mp intKey Value.bool b (trues ks)]) (fun _ => True) ?_ ?_
          ·
            refine WC.region ?_
            refine WL.quiet (Qt.fieldAddrB tf30_0 rfl) rfl rfl ?_
            refine WL.quiet (Qt.loadB 0 rfl ta3 rfl rfl) rfl rfl ?_
            refine WL.quiet (Qt.eql rfl rfl) rfl rfl ?_
            refine WL.quiet (Qt.move rfl) rfl rfl ?_
            refine WL.splitD 43 rfl rfl (fun hg_6 => ?_) (fun hg_6 => ?_)
            ·
              refine WL.quietG 3 true rfl 43 rfl rfl (Qt.fieldAddrB tf30_1 rfl) rfl ?_
              refine WL.quietG 3 true rfl 43 rfl rfl (Qt.loadB 0 rfl ta3 rfl rfl) rfl ?_
              refine WL.quietG 3 true rfl 43 rfl rfl (Qt.lss rfl rfl) rfl ?_
              refine WL.quietG 3 true rfl 43 rfl rfl (Qt.move rfl) rfl ?_
              refine WL.splitD 47 rfl rfl (fun hg_7 => ?_) (fun hg_7 => ?_)
              ·
                refine WL.skipG 7 false true rfl 47 rfl rfl rfl rfl ?_
                refine WL.skipG 7 false true rfl 47 rfl rfl rfl rfl ?_
                refine WL.skipG 7 false true rfl 47 rfl rfl rfl rfl ?_
                refine WL.skipG 7 false true rfl 47 rfl rfl rfl rfl ?_
                refine WL.quietG 3 true rfl 43 rfl rfl (Qt.pickT rfl rfl) rfl ?_
                refine WL.quiet (Qt.pickT rfl rfl) rfl rfl ?_
                refine WL.quiet (Qt.assign rfl) rfl rfl ?_
                refine WL.nil ?_
                exact WX.cut () trivial ⟨rfl, rfl, rfl, rfl, (by rw [show decide (((t.kind : Int) = 0) ∧ (((t.n : Int) < 0) ∨ ((t.n : Int) ≥ many))) = true from by first | (simp [hg_6, hg_7]; done) | exact decide_eq_decide.2 (by omega) | exact decide_eq_true (by omega) | exact decide_eq_false (by omega) | (simp [hg_6, hg_7] <;> omega)]; rfl), trivial⟩ (.take 0 rfl (.use 0 rfl (fun _ h => h) (.take 1 rfl (.nil))))
              ·
                refine WL.quietG 7 false rfl 47 rfl rfl (Qt.fieldAddrB tf30_1 rfl) rfl ?_
                refine WL.quietG 7 false rfl 47 rfl rfl (Qt.loadB 0 rfl ta3 rfl rfl) rfl ?_
                refine WL.quietG 7 false rfl 47 rfl rfl (Qt.move rfl) rfl ?_
                refine WL.quietG 7 false rfl 47 rfl rfl (Qt.geq rfl rfl) rfl ?_
                refine WL.quietG 3 true rfl 43 rfl rfl (Qt.pickF rfl rfl) rfl ?_
                refine WL.quiet (Qt.pickT rfl rfl) rfl rfl ?_
                refine WL.quiet (Qt.assign rfl) rfl rfl ?_
                refine WL.nil ?_
                exact WX.cut () trivial ⟨rfl, rfl, rfl, rfl, (by rw [show decide (((t.kind : Int) = 0) ∧ (((t.n : Int) < 0) ∨ ((t.n : Int) ≥ many))) = (decide ((t.n : Int) ≥ many)) from by first | (simp [hg_6, hg_7]; done) | exact decide_eq_decide.2 (by omega) | exact decide_eq_true (by omega) | exact decide_eq_false (by omega) | (simp [hg_6, hg_7] <;> omega)]; rfl), trivial⟩ (.take 0 rfl (.use 0 rfl (fun _ h => h) (.take 1 rfl (.nil))))
            ·
              refine WL.skipG 3 true false rfl 43 rfl rfl rfl rfl ?_
              refine WL.skipG 3 true false rfl 43 rfl rfl rfl rfl ?_
              refine WL.skipG 3 true false rfl 43 rfl rfl rfl rfl ?_
              refine WL.skipG 3 true false rfl 43 rfl rfl rfl rfl ?_
              refine WL.skipU 7 false rfl 47 rfl rfl rfl ?_
              refine WL.skipU 7 false rfl 47 rfl rfl rfl ?_
              refine WL.skipU 7 false rfl 47 rfl rfl rfl ?_
              refine WL.skipU 7 false rfl 47 rfl rfl rfl ?_
              refine WL.skipG 3 true false rfl 43 rfl rfl rfl rfl ?_
              refine WL.quiet (Qt.pickF rfl rfl) rfl rfl ?_
              refine WL.quiet (Qt.assign rfl) rfl rfl ?_
              refine WL.nil ?_
              exact WX.cut () trivial ⟨rfl, rfl, rfl, rfl, (by rw [show decide (((t.kind : Int) = 0) ∧ (((t.n : Int) < 0) ∨ ((t.n : Int) ≥ many))) = false from by first | (simp [hg_6]; done) | exact decide_eq_decide.2 (by omega) | exact decide_eq_true (by omega) | exact decide_eq_false (by omega) | (simp [hg_6] <;> omega)]; rfl), trivial⟩ (.take 0 rfl (.use 0 rfl (fun _ h => h) (.take 1 rfl (.nil))))
          ·
            intro _ _
            show WC _ _ _ _ _ _ [(1, .int .i64 many), (2, .map (some b)), (3, .pointer (some ⟨b_1, 0, none⟩)), (6, .int .i64 0), (39, .bool (decide (((t.kind : Int) = 0) ∧ (((t.n : Int) < 0) ∨ ((t.n : Int) ≥ many)))))] [blk b_1 30 [.int .i64 t.kind, .int .i64 t.n, .slice A t.kids.length c], rd kTree A c t.kids, mp intKey Value.bool b (trues ks)]
            refine WC.condD rfl (fun hc_3 => ?_) (fun hc_3 => ?_)
            ·
              refine WC.seq ?_
              refine WC.region ?_
              refine WL.quiet (Qt.assign rfl) rfl rfl ?_
              refine WL.nil ?_
              refine WX.next ?_
              refine WC.ret ?_
              refine WX.block_ret ?_
              refine WX.pass_ret ?_
              refine WX.ret1 (.take 2 rfl (.nil)) rfl rfl ?_
              exact ⟨_, _, rfl, rfl, fun h => absurd h (by decide), fun hv => by have hs := hv.shape; omega⟩
            ·
              refine WC.cut (fun _ : Unit => [(1, .int .i64 many), (2, .map (some b)), (3, .pointer (some ⟨b_1, 0, none⟩)), (6, .int .i64 0), (54, .bool (decide (((t.kind : Int) = 0) ∧ ((mlook (trues ks) t.n).getD false = true))))]) (fun _ => [blk b_1 30 [.int .i64 t.kind, .int .i64 t.n, .slice A t.kids.length c], rd kTree A c t.kids, mp intKey Value.bool b (trues ks)]) (fun _ => True) ?_ ?_
              ·
                refine WC.region ?_
                refine WL.quiet (Qt.fieldAddrB tf30_0 rfl) rfl rfl ?_
                refine WL.quiet (Qt.loadB 0 rfl ta3 rfl rfl) rfl rfl ?_
                refine WL.quiet (Qt.eql rfl rfl) rfl rfl ?_
                refine WL.quiet (Qt.move rfl) rfl rfl ?_
                refine WL.splitD 58 rfl rfl (fun hg_8 => ?_) (fun hg_8 => ?_)
                ·
                  refine WL.quietG 3 true rfl 58 rfl rfl (Qt.move rfl) rfl ?_
                  refine WL.quietG 3 true rfl 58 rfl rfl (Qt.fieldAddrB tf30_1 rfl) rfl ?_
                  refine WL.quietG 3 true rfl 58 rfl rfl (Qt.loadB 0 rfl ta3 rfl rfl) rfl ?_
                  refine WL.quietG 3 true rfl 58 rfl rfl (Qt.lookup (z := false) 2 rfl Tryd.underlying58 Tryd.underlying3 ti4 rfl rfl) rfl ?_
                  refine WL.quiet (Qt.pickT rfl rfl) rfl rfl ?_
                  refine WL.quiet (Qt.assign rfl) rfl rfl ?_
                  refine WL.nil ?_
                  exact WX.cut () trivial ⟨rfl, rfl, rfl, rfl, (by rw [show decide (((t.kind : Int) = 0) ∧ ((mlook (trues ks) t.n).getD false = true)) = (mlook (trues ks) t.n).getD false from by first | (simp [hg_8]; done) | exact decide_eq_decide.2 (by omega) | exact decide_eq_true (by omega) | exact decide_eq_false (by omega) | (simp [hg_8] <;> omega)]; rfl), trivial⟩ (.take 0 rfl (.use 0 rfl (fun _ h => h) (.take 1 rfl (.nil))))
                ·
                  refine WL.skipG 3 true false rfl 58 rfl rfl rfl rfl ?_
                  refine WL.skipG 3 true false rfl 58 rfl rfl rfl rfl ?_
                  refine WL.skipG 3 true false rfl 58 rfl rfl rfl rfl ?_
                  refine WL.skipG 3 true false rfl 58 rfl rfl rfl rfl ?_
                  refine WL.quiet (Qt.pickF rfl rfl) rfl rfl ?_
                  refine WL.quiet (Qt.assign rfl) rfl rfl ?_
                  refine WL.nil ?_
                  exact WX.cut () trivial ⟨rfl, rfl, rfl, rfl, (by rw [show decide (((t.kind : Int) = 0) ∧ ((mlook (trues ks) t.n).getD false = true)) = false from by first | (simp [hg_8]; done) | exact decide_eq_decide.2 (by omega) | exact decide_eq_true (by omega) | exact decide_eq_false (by omega) | (simp [hg_8] <;> omega)]; rfl), trivial⟩ (.take 0 rfl (.use 0 rfl (fun _ h => h) (.take 1 rfl (.nil))))
              ·
                intro _ _
                show WC _ _ _ _ _ _ [(1, .int .i64 many), (2, .map (some b)), (3, .pointer (some ⟨b_1, 0, none⟩)), (6, .int .i64 0), (54, .bool (decide (((t.kind : Int) = 0) ∧ ((mlook (trues ks) t.n).getD false = true))))] [blk b_1 30 [.int .i64 t.kind, .int .i64 t.n, .slice A t.kids.length c], rd kTree A c t.kids, mp intKey Value.bool b (trues ks)]
                refine WC.condD rfl (fun hc_4 => ?_) (fun hc_4 => ?_)
                ·
                  refine WC.seq ?_
                  refine WC.region ?_
                  refine WL.quiet (Qt.assign rfl) rfl rfl ?_
                  refine WL.nil ?_
                  refine WX.next ?_
                  refine WC.ret ?_
                  refine WX.block_ret ?_
                  refine WX.pass_ret ?_
                  refine WX.ret1 (.take 2 rfl (.nil)) rfl rfl ?_
                  exact ⟨_, _, rfl, rfl, fun h => absurd h (by decide), fun hv => (hv.fresh (by omega) (look_yes hc_4.2)).elim⟩
                ·
                  refine WC.seq ?_
                  refine WC.region ?_
                  refine WL.quiet (Qt.fieldAddrB tf30_0 rfl) rfl rfl ?_
                  refine WL.quiet (Qt.loadB 0 rfl ta3 rfl rfl) rfl rfl ?_
                  refine WL.quiet (Qt.eql rfl rfl) rfl rfl ?_
                  refine WL.quiet (Qt.assign rfl) rfl rfl ?_
                  refine WL.nil ?_
                  refine WX.next ?_
                  refine WC.condD rfl (fun hc_5 => ?_) (fun hc_5 => ?_)
                  ·
                    refine WC.seq ?_
                    refine WC.region ?_
                    refine WL.quiet (Qt.move rfl) rfl rfl ?_
                    refine WL.quiet (Qt.fieldAddrB tf30_1 rfl) rfl rfl ?_
                    refine WL.quiet (Qt.loadB 0 rfl ta3 rfl rfl) rfl rfl ?_
                    refine WL.loud (.take 2 rfl (.nil)) (Ld.update Tryd.underlying58 Tryd.underlying3 rfl rfl rfl) trivial rfl ?_
                    rintro _ _ rfl
                    refine WL.nil ?_
                    refine WX.next ?_
                    refine WC.seq ?_
                    refine WC.region ?_
                    refine WL.quiet (Qt.assign rfl) rfl rfl ?_
                    refine WL.nil ?_
                    refine WX.next ?_
                    refine WC.ret ?_
                    refine WX.block_ret ?_
                    refine WX.pass_ret ?_
                    have hnew : t.n ∉ ks := look_no (fun h => hc_4 ⟨by omega, h⟩)
                    have hl0 := leaves_leaf t (by omega)
                    refine WX.ret1 (.take 0 rfl (.nil)) rfl rfl ?_
                    exact ⟨_, ks ++ [t.n], rfl, by rw [mset_new hnew], fun _ => ⟨Vld.leaf (by omega) (by omega) (by omega) (by omega) hnew, by rw [hl0]⟩, fun _ => rfl⟩
                  ·
                    refine WC.seq ?_
                    refine WC.region ?_
                    refine WL.quiet (Qt.fieldAddrB tf30_2 rfl) rfl rfl ?_
                    refine WL.quiet (Qt.loadB 0 rfl ta28 rfl rfl) rfl rfl ?_
                    refine WL.quiet (Qt.lenS Tryd.underlying28 rfl) rfl rfl ?_
                    refine WL.quiet (Qt.lss rfl rfl) rfl rfl ?_
                    refine WL.quiet (Qt.assign rfl) rfl rfl ?_
                    refine WL.nil ?_
                    refine WX.next ?_
                    refine WC.condD rfl (fun hc_6 => ?_) (fun hc_6 => ?_)
                    ·
                      refine WC.seq ?_
                      refine WC.region ?_
                      refine WL.quiet (Qt.assign rfl) rfl rfl ?_
                      refine WL.nil ?_
                      refine WX.next ?_
                      refine WC.ret ?_
                      refine WX.block_ret ?_
                      refine WX.pass_ret ?_
                      refine WX.ret1 (.take 2 rfl (.nil)) rfl rfl ?_
                      exact ⟨_, _, rfl, rfl, fun h => absurd h (by decide), fun hv => by have hs := hv.shape; omega⟩
                    ·
                      refine WC.seq ?_
                      refine WC.region ?_
                      refine WL.quiet (Qt.fieldAddrB tf30_2 rfl) rfl rfl ?_
                      refine WL.quiet (Qt.loadB 0 rfl ta28 rfl rfl) rfl rfl ?_
                      refine WL.quiet (Qt.makeFunc (vs := []) rfl rfl) rfl rfl ?_
                      refine WL.call (.use 1 rfl (fun _ h => h) (.take 0 rfl (.nil))) (Cl.func cb34 rfl) (containsTreeW t.kids _ _ 35 [.pointer (some ⟨b_1, 0, none⟩)] (blk b_1 30 [.int .i64 t.kind, .int .i64 t.n, .slice A t.kids.length c]) (fun x => decide (x.kind = t.kind)) cb35 (fun k hk A2 c2 => sameKindW t.kids[k] t A2 A c2 c b_1)) trivial rfl ?_
                      rintro _ _ ⟨rfl, rfl⟩
                      refine WL.quiet (Qt.assign rfl) rfl rfl ?_
                      refine WL.nil ?_
                      refine WX.next ?_
                      refine WC.cond rfl (fun hc_7 => ?_) (fun hc_7 => ?_)
                      ·
                        refine WC.seq ?_
                        refine WC.region ?_
                        refine WL.quiet (Qt.assign rfl) rfl rfl ?_
                        refine WL.nil ?_
                        refine WX.next ?_
                        refine WC.ret ?_
                        refine WX.block_ret ?_
                        refine WX.pass_ret ?_
                        refine WX.ret1 (.take 2 rfl (.nil)) rfl rfl ?_
                        exact ⟨_, _, rfl, rfl, fun h => absurd h (by decide), fun hv => by rw [hv.nokind (by omega)] at hc_7; cases hc_7⟩
                      ·
                        refine WC.skip ?_
                        refine WX.block_end ?_
                        refine WX.next ?_
                        refine WC.seq ?_
                        refine WC.seq ?_
                        refine WC.region ?_
                        refine WL.quiet (Qt.fieldAddrB tf30_2 rfl) rfl rfl ?_
                        refine WL.quiet (Qt.loadB 0 rfl ta28 rfl rfl) rfl rfl ?_
                        refine WL.quiet (Qt.lenS Tryd.underlying28 rfl) rfl rfl ?_
                        refine WL.quiet (Qt.move rfl) rfl rfl ?_
                        refine WL.nil ?_
                        refine WX.next ?_
                        refine WC.block ?_
                        refine WC.loop (fun w0 : Nat × (List Int) => [(1, .int .i64 many), (2, .map (some b)), (6, .int .i64 0), (82, .slice A t.kids.length c), (83, .int .i64 ((t.kids.length : Nat) : Int)), (84, .int .i64 ((w0.1 : Nat) : Int))]) (fun w0 => [blk b_1 30 [.int .i64 t.kind, .int .i64 t.n, .slice A t.kids.length c], rd kTree A c t.kids, mp intKey Value.bool b (trues w0.2)]) (fun w0 => w0.1 ≤ t.kids.length ∧ okL (t.kids.take w0.1) ∧ VL many ks (leavesL (t.kids.take w0.1)) ∧ w0.2 = ks ++ leavesL (t.kids.take w0.1)) (fun w0 => t.kids.length - w0.1) (0, ks) ⟨Nat.zero_le _, trivial, ⟨by simp [leavesL], by simp [leavesL], by simp [leavesL]⟩, by simp [leavesL]⟩ ⟨rfl, rfl, rfl, rfl, rfl, rfl, trivial⟩ (.take 0 rfl (.use 0 rfl (fun _ h => h) (.take 1 rfl (.nil)))) ?_
                        rintro ⟨k, ks1⟩ ⟨hk, hok, hvl, hks⟩
                        try dsimp only at hk hok hvl hks
                        show WC _ _ _ _ _ _ [(1, .int .i64 many), (2, .map (some b)), (6, .int .i64 0), (82, .slice A t.kids.length c), (83, .int .i64 ((t.kids.length : Nat) : Int)), (84, .int .i64 ((k : Nat) : Int))] [blk b_1 30 [.int .i64 t.kind, .int .i64 t.n, .slice A t.kids.length c], rd kTree A c t.kids, mp intKey Value.bool b (trues ks1)]
                        refine WC.seq ?_
                        refine WC.region ?_
                        refine WL.quiet (Qt.lss rfl rfl) rfl rfl ?_
                        refine WL.nil ?_
                        refine WX.next ?_
                        refine WC.seq ?_
                        refine WC.condD rfl (fun hc_8 => ?_) (fun hc_8 => ?_)
                        ·
                          refine WC.skip ?_
                          refine WX.next ?_
                          refine WC.seq ?_
                          refine WC.block ?_
                          refine WC.seq ?_
                          refine WC.region ?_
                          have hj_1 : k < t.kids.length := by omega
                          refine WL.learn 1 rfl (rd_at k hj_1 (vTree _)) ?_
                          rintro ⟨p_1, ⟨A_1, c_1⟩⟩ hA_1
                          refine WL.quiet (Qt.indexAddrE k hA_1 Tryd.underlying28 ti30 rfl rfl (by first | assumption | omega)) rfl rfl ?_
                          refine WL.quiet (Qt.loadCA (p := p_1.add (k * 3)) (o := 0) 0 rfl ta30 ti30 rfl rfl) rfl rfl ?_
                          refine WL.loud (.nil) (Ld.alloc ti30 rfl) trivial rfl ?_
                          rintro _ _ ⟨b_2, rfl, rfl⟩
                          refine WL.loud (.take 0 rfl (.nil)) (Ld.store ti30 rfl rfl rfl rfl rfl rfl) trivial rfl ?_
                          rintro _ _ rfl
                          refine WL.nil ?_
                          refine WX.next ?_
                          refine WC.seq ?_
                          refine WC.region ?_
                          refine WL.quiet (Qt.loadBA 0 rfl ta30 ti30 rfl rfl) rfl rfl ?_
                          refine WL.quiet (Qt.move rfl) rfl rfl ?_
                          refine WL.quiet (Qt.move rfl) rfl rfl ?_
                          refine WL.call (.use 2 rfl (fun _ h => h) (.take 5 rfl (.nil))) (Cl.func cb20 rfl) (ih (t.kids[k]) many ks1 _ _ b (by have := kid_size t k (by omega); omega)) trivial rfl ?_
                          rintro _ _ ⟨e_1, ks_1, rfl, rfl, he_1, hv_1⟩
                          refine WL.quiet (Qt.assign rfl) rfl rfl ?_
                          refine WL.nil ?_
                          refine WX.next ?_
                          refine WC.seq ?_
                          refine WC.region ?_
                          refine WL.quiet (Qt.move rfl) rfl rfl ?_
                          refine WL.quiet (Qt.neq rfl rfl) rfl rfl ?_
                          refine WL.nil ?_
                          refine WX.next ?_
                          refine WC.condD rfl (fun hc_9 => ?_) (fun hc_9 => ?_)
                          ·
                            refine WC.seq ?_
                            refine WC.region ?_
                            refine WL.quiet (Qt.move rfl) rfl rfl ?_
                            refine WL.quiet (Qt.assign rfl) rfl rfl ?_
                            refine WL.nil ?_
                            refine WX.next ?_
                            refine WC.ret ?_
                            refine WX.block_ret ?_
                            refine WX.pass_ret ?_
                            refine WX.pass_ret ?_
                            refine WX.block_ret ?_
                            refine WX.pass_ret ?_
                            refine WX.ret1 (.take 0 rfl (.nil)) rfl rfl ?_
                            exact ⟨_, _, rfl, rfl, fun h => absurd h (by omega), fun hv => hv_1 (by rw [hks]; exact hv.kid (by omega) (by omega))⟩
                          ·
                            refine WC.skip ?_
                            refine WX.block_end ?_
                            refine WX.next ?_
                            refine WC.region ?_
                            refine WL.quiet (Qt.add rfl rfl (by omega)) rfl rfl ?_
                            refine WL.quiet (Qt.move rfl) rfl rfl ?_
                            refine WL.nil ?_
                            have hkid := he_1 (by omega)
                            exact WX.back (k + 1, ks_1) ⟨by omega, okL_take (by omega) hok hkid.1.1, by rw [leavesL_take _ _ (by omega), VL_append, ← hks]; exact ⟨hvl, hkid.1.2⟩, by rw [leavesL_take _ _ (by omega), hkid.2, hks, List.append_assoc]⟩ (by first | omega | (dsimp only; omega) | (simp; omega)) ⟨rfl, rfl, rfl, rfl, rfl, rfl, trivial⟩ (.take 4 rfl (.use 4 rfl (fun _ h => h) (.take 0 rfl (.nil))))
                        ·
                          refine WC.exit ?_
                          refine WX.pass_exit ?_
                          refine WX.pass_exit ?_
                          refine WX.block_exit ?_
                          refine WX.next ?_
                          refine WC.seq ?_
                          refine WC.region ?_
                          refine WL.quiet (Qt.assign rfl) rfl rfl ?_
                          refine WL.nil ?_
                          refine WX.next ?_
                          refine WC.ret ?_
                          have htk : t.kids.take k = t.kids := List.take_of_length_le (by omega)
                          rw [htk] at hok hvl hks
                          refine WX.ret1 (.take 2 rfl (.nil)) rfl rfl ?_
                          exact ⟨_, _, rfl, rfl, fun _ => ⟨Vld.of (by omega) (by omega) (by omega) hc_7 hok hvl, by rw [hks, leaves_kids t (by omega)]⟩, fun _ => rfl⟩
theorem checkW (t : PT) (many : Int) (ks : List Int) (A : Option Addr) (c b : Nat)  : Spec μ Tryd.prog 20 #[.agg [.int .i64 t.kind, .int .i64 t.n, .slice A t.kids.length c].toArray, .int .i64 many, .map (some b)] [rd kTree A c t.kids, mp intKey Value.bool b (trues ks)] fun v Δ => ∃ (e : Int) (ks1 : List Int), v = .int .i64 e ∧ Δ = [mp intKey Value.bool b (trues ks1)] ∧ (e = 0 → Vld many ks t ∧ ks1 = ks ++ t.leaves) ∧ (Vld many ks t → e = 0) := checkW_ih _ t many ks A c b (Nat.lt_succ_self _) 

end Go.Proofs.YtkhmbhdlfpalkaaDoor.Sep

/- A walk, printed by gen.py out of hints. -/
namespace Go.Proofs.YtkhmbhdlfpalkaaDoor.Sep
open Go
variable {μ : Prop}
theorem treeCheckW (t : PT) (many : Int) (A : Option Addr) (c : Nat)  : Spec μ Tryd.prog 9 #[.agg [.int .i64 t.kind, .int .i64 t.n, .slice A t.kids.length c].toArray, .int .i64 many] [rd kTree A c t.kids] fun v Δ => ∃ e : Int, v = .int .i64 e ∧ Δ = [] ∧ (e = 0 ↔ Vld many [] t ∧ (t.leaves.length : Int) = max 0 many) := by
  refine Spec.of_body (n := 22) Tryd.func9 rfl rfl rfl fun w0 S0 O0 => ?_
  show WC _ _ _ _ _ _ [(0, .agg [.int .i64 t.kind, .int .i64 t.n, .slice A t.kids.length c].toArray), (1, .int .i64 many)] [rd kTree A c t.kids]
  refine WC.seq ?_
  refine WC.region ?_
  refine WL.loud (.nil) (Ld.box rfl rfl) trivial rfl ?_
  rintro _ _ ⟨b_1, rfl, rfl⟩
  refine WL.quiet (Qt.assign rfl) rfl rfl ?_
  refine WL.nil ?_
  refine WX.next ?_
  refine WC.seq ?_
  refine WC.region ?_
  refine WL.loud (.nil) (Ld.makeMap (E := intKey) (V := Value.bool)) trivial rfl ?_
  rintro _ _ ⟨b_2, rfl, rfl⟩
  refine WL.quiet (Qt.assign rfl) rfl rfl ?_
  refine WL.nil ?_
  refine WX.next ?_
  refine WC.seq ?_
  refine WC.region ?_
  refine WL.quiet (Qt.loadBA 1 rfl ta30 ti30 rfl rfl) rfl rfl ?_
  refine WL.quiet (Qt.move rfl) rfl rfl ?_
  refine WL.quiet (Qt.move rfl) rfl rfl ?_
  refine WL.call (.use 2 rfl (fun _ h => h) (.take 0 rfl (.nil))) (Cl.func cb20 rfl) (checkW t many [] _ _ b_2) trivial rfl ?_
  rintro _ _ ⟨e_1, ks_1, rfl, rfl, he_1, hv_1⟩
  refine WL.quiet (Qt.assign rfl) rfl rfl ?_
  refine WL.nil ?_
  refine WX.next ?_
  refine WC.seq ?_
  refine WC.cut (fun _ : Unit => [(4, .int .i64 0), (6, .int .i64 e_1), (20, .bool (decide (((e_1 : Int) = 0) ∧ ((((trues ks_1).length : Nat) : Int) ≠ (if many > 0 then many else 0)))))]) (fun _ => [mp intKey Value.bool b_2 (trues ks_1), blk b_1 30 [.int .i64 t.kind, .int .i64 t.n, .slice A t.kids.length c], rd kTree A c t.kids]) (fun _ => True) ?_ ?_
  ·
    refine WC.region ?_
    refine WL.quiet (Qt.move rfl) rfl rfl ?_
    refine WL.quiet (Qt.eql rfl rfl) rfl rfl ?_
    refine WL.quiet (Qt.move rfl) rfl rfl ?_
    refine WL.splitD 14 rfl rfl (fun hg_1 => ?_) (fun hg_1 => ?_)
    ·
      refine WL.quietG 2 true rfl 14 rfl rfl (Qt.move rfl) rfl ?_
      refine WL.quietG 2 true rfl 14 rfl rfl (Qt.lenM 0 rfl Tryd.underlying58 rfl) rfl ?_
      refine WL.quietG 2 true rfl 14 rfl rfl (Qt.move rfl) rfl ?_
      refine WL.quietG 2 true rfl 14 rfl rfl (Qt.max2 rfl rfl) rfl ?_
      refine WL.quietG 2 true rfl 14 rfl rfl (Qt.neq rfl rfl) rfl ?_
      refine WL.quiet (Qt.pickT rfl rfl) rfl rfl ?_
      refine WL.nil ?_
      exact WX.cut () trivial ⟨rfl, rfl, (by rw [show decide (((e_1 : Int) = 0) ∧ ((((trues ks_1).length : Nat) : Int) ≠ (if many > 0 then many else 0))) = (decide ((((trues ks_1).length : Nat) : Int) ≠ (if many > 0 then many else 0))) from by first | (simp [hg_1]; done) | exact decide_eq_decide.2 (by omega) | exact decide_eq_true (by omega) | exact decide_eq_false (by omega) | (simp [hg_1] <;> omega)]; rfl), trivial⟩ (.take 0 rfl (.take 0 rfl (.use 0 rfl (fun _ h => h) (.nil))))
    ·
      refine WL.skipG 2 true false rfl 14 rfl rfl rfl rfl ?_
      refine WL.skipG 2 true false rfl 14 rfl rfl rfl rfl ?_
      refine WL.skipG 2 true false rfl 14 rfl rfl rfl rfl ?_
      refine WL.skipG 2 true false rfl 14 rfl rfl rfl rfl ?_
      refine WL.skipG 2 true false rfl 14 rfl rfl rfl rfl ?_
      refine WL.quiet (Qt.pickF rfl rfl) rfl rfl ?_
      refine WL.nil ?_
      exact WX.cut () trivial ⟨rfl, rfl, (by rw [show decide (((e_1 : Int) = 0) ∧ ((((trues ks_1).length : Nat) : Int) ≠ (if many > 0 then many else 0))) = false from by first | (simp [hg_1]; done) | exact decide_eq_decide.2 (by omega) | exact decide_eq_true (by omega) | exact decide_eq_false (by omega) | (simp [hg_1] <;> omega)]; rfl), trivial⟩ (.take 0 rfl (.take 0 rfl (.use 0 rfl (fun _ h => h) (.nil))))
  ·
    intro _ _
    show WC _ _ _ _ _ _ [(4, .int .i64 0), (6, .int .i64 e_1), (20, .bool (decide (((e_1 : Int) = 0) ∧ ((((trues ks_1).length : Nat) : Int) ≠ (if many > 0 then many else 0)))))] [mp intKey Value.bool b_2 (trues ks_1), blk b_1 30 [.int .i64 t.kind, .int .i64 t.n, .slice A t.kids.length c], rd kTree A c t.kids]
    refine WC.condD rfl (fun hc_1 => ?_) (fun hc_1 => ?_)
    ·
      refine WC.region ?_
      refine WL.quiet (Qt.assign rfl) rfl rfl ?_
      refine WL.nil ?_
      refine WX.next ?_
      refine WC.seq ?_
      refine WC.region ?_
      refine WL.quiet (Qt.move rfl) rfl rfl ?_
      refine WL.quiet (Qt.assign rfl) rfl rfl ?_
      refine WL.nil ?_
      refine WX.next ?_
      refine WC.ret ?_
      rw [trues_length] at hc_1
      refine WX.ret1 (.nil) rfl rfl ?_
      exact ⟨_, rfl, rfl, check_iff4 he_1 hc_1⟩
    ·
      refine WC.skip ?_
      refine WX.next ?_
      refine WC.seq ?_
      refine WC.region ?_
      refine WL.quiet (Qt.move rfl) rfl rfl ?_
      refine WL.quiet (Qt.assign rfl) rfl rfl ?_
      refine WL.nil ?_
      refine WX.next ?_
      refine WC.ret ?_
      rw [trues_length] at hc_1
      refine WX.ret1 (.nil) rfl rfl ?_
      exact ⟨_, rfl, rfl, check_iff he_1 hv_1 hc_1⟩

end Go.Proofs.YtkhmbhdlfpalkaaDoor.Sep

/- A walk, printed by gen.py out of hints. -/
namespace Go.Proofs.YtkhmbhdlfpalkaaDoor.Sep
open Go
variable {μ : Prop}
theorem cloneW (cs : List Contact) (A : Option Addr) (c : Nat) (hA0 : A = none → cs = []) (hlen : cs.length ≤ 100000) : Spec μ Tryd.prog 17 #[.slice A cs.length c] [rd kContact A c cs] fun v Δ => ∃ A1 c1, v = .slice A1 cs.length c1 ∧ Δ = [row kContact 42 A1 c1 cs] := by
  refine Spec.of_body (n := 8) Tryd.func17 rfl rfl rfl fun w0 S0 O0 => ?_
  show WC _ _ _ _ _ _ [(0, .slice A cs.length c)] [rd kContact A c cs]
  refine WC.learn (Z := Unit) (Δ := fun _ => []) (φ := fun _ => cs.length ≤ c ∧ c ≤ 9223372036854775807) 0 rfl (fun S w h => ⟨(), rd_bounds h, nofacts⟩) ?_
  rintro _ ⟨hb_1, hb_2⟩
  refine WC.seq ?_
  refine WC.region ?_
  refine WL.quiet (Qt.assign rfl) rfl rfl ?_
  refine WL.nil ?_
  refine WX.next ?_
  refine WC.seq ?_
  refine WC.seq ?_
  refine WC.region ?_
  refine WL.quiet (Qt.move rfl) rfl rfl ?_
  refine WL.quiet (Qt.nilEq Tryd.underlying22 rfl) rfl rfl ?_
  refine WL.nil ?_
  refine WX.next ?_
  refine WC.cond rfl (fun hc_1 => ?_) (fun hc_1 => ?_)
  ·
    refine WC.seq ?_
    refine WC.region ?_
    refine WL.quiet (Qt.assign rfl) rfl rfl ?_
    refine WL.nil ?_
    refine WX.next ?_
    refine WC.ret ?_
    refine WX.pass_ret ?_
    have hcs : cs = [] := hA0 (by simpa using hc_1)
    subst hcs
    refine WX.turn (.nil) (nil_row (e := kContact) (t := 42)) ?_
    rintro _ rfl
    refine WX.ret1 (.take 0 rfl (.nil)) rfl rfl ?_
    exact ⟨_, _, rfl, rfl⟩
  ·
    refine WC.skip ?_
    refine WX.next ?_
    refine WC.seq ?_
    refine WC.region ?_
    refine WL.loud (.nil) (Ld.buildEmpty Tryd.underlying22 ti42) trivial rfl ?_
    rintro _ _ ⟨b_1, rfl, rfl⟩
    refine WL.turn (.take 0 rfl (.nil)) (blk_row (e := kContact) (U := []) [] (fun F hF => nomatch hF) (fun S w h => Reps.nil _ _ _) (by simp)) ?_
    rintro _ rfl
    refine WL.quiet (Qt.move rfl) rfl rfl ?_
    refine WL.loud (.take 0 rfl (.use 0 rfl (fun _ h => h) (.nil))) (Ld.appendRd (e := kContact) (xs := []) (ys := cs) Tryd.underlying22 ti42 rfl (by decide) (by decide) rfl rfl (by first | omega | (simp; omega))) trivial rfl ?_
    rintro _ _ ⟨A_1, c_1, rfl, rfl⟩
    refine WL.quiet (Qt.assign rfl) rfl rfl ?_
    refine WL.nil ?_
    refine WX.next ?_
    refine WC.ret ?_
    refine WX.ret1 (.take 0 rfl (.nil)) rfl rfl ?_
    exact ⟨_, _, by rw [List.nil_append], by rw [List.nil_append]⟩

end Go.Proofs.YtkhmbhdlfpalkaaDoor.Sep

/- A walk, printed by gen.py out of hints. -/
namespace Go.Proofs.YtkhmbhdlfpalkaaDoor.Sep
open Go
variable {μ : Prop}
theorem layW_ih (m : Nat) : ∀ (t : PT) (f to : ByteArray) (n : Nat) (cs : List Contact) (cur : List Value) (A : Option Addr) (q b c bo bl bn : Nat), SizeOf.sizeOf t < m → t.ok → (∀ x, x ∈ t.leaves → 0 ≤ x ∧ x < (cs.length : Int)) → (n + t.leaves.length ≤ 99) → Spec μ Tryd.prog 18 #[.agg [.int .i64 t.kind, .int .i64 t.n, .slice A t.kids.length q].toArray, .agg [.string f, .string to].toArray, .pointer (some ⟨bo, 0, none⟩), .pointer (some ⟨bl, 0, none⟩), .pointer (some ⟨bn, 0, none⟩)] [rd kTree A q t.kids, blk bo 22 [.slice (some ⟨b, 0, none⟩) cs.length c], blk bl 56 [.func (.func 18) #[] [.pointer (some ⟨bo, 0, none⟩), .pointer (some ⟨bl, 0, none⟩), .pointer (some ⟨bn, 0, none⟩)].toArray], blk bn 3 [.int .i64 ((n : Nat) : Int)], rowL kContact 42 b c cs cur] fun v Δ => ∃ cur1, v = .tuple #[] ∧ Δ = [blk bo 22 [.slice (some ⟨b, 0, none⟩) cs.length c], blk bl 56 [.func (.func 18) #[] [.pointer (some ⟨bo, 0, none⟩), .pointer (some ⟨bl, 0, none⟩), .pointer (some ⟨bn, 0, none⟩)].toArray], blk bn 3 [.int .i64 (((layT t f to (n, cs)).1 : Nat) : Int)], rowL kContact 42 b c (layT t f to (n, cs)).2 cur1] := by
  induction m with
  | zero => exact fun t f to n cs cur A q b c bo bl bn h => absurd h (Nat.not_lt_zero _)
  | succ m ih =>
  intro t f to n cs cur A q b c bo bl bn hsz hok hr hn
  have ih' : ∀ (t' : PT) (f to : ByteArray) (n' : Nat) (cs' : List Contact) (cur' : List Value), cs'.length = cs.length → ∀ (A : Option Addr) (q : Nat), SizeOf.sizeOf t' < m → t'.ok → (∀ x, x ∈ t'.leaves → 0 ≤ x ∧ x < (cs.length : Int)) → n' + t'.leaves.length ≤ 99 → Spec μ Tryd.prog 18 #[.agg #[.int .i64 t'.kind, .int .i64 t'.n, .slice A t'.kids.length q], .agg #[.string f, .string to], .pointer (some ⟨bo, 0, none⟩), .pointer (some ⟨bl, 0, none⟩), .pointer (some ⟨bn, 0, none⟩)] [rd kTree A q t'.kids, blk bo 22 [.slice (some ⟨b, 0, none⟩) cs.length c], blk bl 56 [.func (.func 18) #[] [.pointer (some ⟨bo, 0, none⟩), .pointer (some ⟨bl, 0, none⟩), .pointer (some ⟨bn, 0, none⟩)].toArray], blk bn 3 [.int .i64 ((n' : Nat) : Int)], rowL kContact 42 b c cs' cur'] fun v Δ => ∃ cur1, v = .tuple #[] ∧ Δ = [blk bo 22 [.slice (some ⟨b, 0, none⟩) cs.length c], blk bl 56 [.func (.func 18) #[] [.pointer (some ⟨bo, 0, none⟩), .pointer (some ⟨bl, 0, none⟩), .pointer (some ⟨bn, 0, none⟩)].toArray], blk bn 3 [.int .i64 (((layT t' f to (n', cs')).1 : Nat) : Int)], rowL kContact 42 b c (layT t' f to (n', cs')).2 cur1] := by
    intro t' f to n' cs' cur' hcl A q hs ho hr hn
    have := ih t' f to n' cs' cur' A q b c bo bl bn hs ho (by rw [hcl]; exact hr) hn
    rwa [hcl] at this
  refine Spec.of_body (n := 81) Tryd.func18 rfl rfl rfl fun w0 S0 O0 => ?_
  show WC _ _ _ _ _ _ [(0, .agg [.int .i64 t.kind, .int .i64 t.n, .slice A t.kids.length q].toArray), (1, .agg [.string f, .string to].toArray), (2, .pointer (some ⟨bo, 0, none⟩)), (3, .pointer (some ⟨bl, 0, none⟩)), (4, .pointer (some ⟨bn, 0, none⟩))] [rd kTree A q t.kids, blk bo 22 [.slice (some ⟨b, 0, none⟩) cs.length c], blk bl 56 [.func (.func 18) #[] [.pointer (some ⟨bo, 0, none⟩), .pointer (some ⟨bl, 0, none⟩), .pointer (some ⟨bn, 0, none⟩)].toArray], blk bn 3 [.int .i64 ((n : Nat) : Int)], rowL kContact 42 b c cs cur]
  refine WC.learn (Z := Unit) (Δ := fun _ => []) (φ := fun _ => t.kids.length ≤ q ∧ q ≤ 9223372036854775807) 0 rfl (fun S w h => ⟨(), rd_bounds h, nofacts⟩) ?_
  rintro _ ⟨hb_1, hb_2⟩
  refine WC.learn (Z := Unit) (Δ := fun _ => []) (φ := fun _ => cs.length ≤ c ∧ c ≤ 9223372036854775807) 4 rfl (fun S w h => ⟨(), rowL_bounds h, nofacts⟩) ?_
  rintro _ ⟨hb_3, hb_4⟩
  refine WC.seq ?_
  refine WC.region ?_
  refine WL.loud (.nil) (Ld.box rfl rfl) trivial rfl ?_
  rintro _ _ ⟨b_1, rfl, rfl⟩
  refine WL.loud (.nil) (Ld.box rfl rfl) trivial rfl ?_
  rintro _ _ ⟨b_2, rfl, rfl⟩
  refine WL.nil ?_
  refine WX.next ?_
  refine WC.seq ?_
  refine WC.region ?_
  refine WL.quiet (Qt.fieldAddrB tf30_0 rfl) rfl rfl ?_
  refine WL.quiet (Qt.loadB 1 rfl ta3 rfl rfl) rfl rfl ?_
  refine WL.nil ?_
  refine WX.next ?_
  refine WC.block ?_
  refine WC.seq ?_
  refine WC.region ?_
  refine WL.quiet (Qt.eql rfl rfl) rfl rfl ?_
  refine WL.quiet (Qt.assign rfl) rfl rfl ?_
  refine WL.nil ?_
  refine WX.next ?_
  refine WC.condD rfl (fun hc_1 => ?_) (fun hc_1 => ?_)
  ·
    obtain ⟨hn0, hn1⟩ := hr t.n (by rw [leaves_leaf t (by omega)]; exact List.mem_singleton.2 rfl)
    obtain ⟨j, hje⟩ := Int.eq_ofNat_of_zero_le hn0
    rw [hje]
    have hj0 : j < cs.length := by omega
    have hj_1 : j < cs.length := by omega
    refine WC.learn 6 rfl (rowL_at j hj_1 (vContact _)) ?_
    rintro _ hel_1
    refine WC.draw (Γq := [blk b_2 48 [.string f, .string to], blk b_1 30 [.int .i64 t.kind, .int .i64 ((j : Nat) : Int), .slice A t.kids.length q], rd kTree A q t.kids, blk bo 22 [.slice (some ⟨b, 0, none⟩) cs.length c], blk bl 56 [.func (.func 18) #[] [.pointer (some ⟨bo, 0, none⟩), .pointer (some ⟨bl, 0, none⟩), .pointer (some ⟨bn, 0, none⟩)].toArray], blk bn 3 [.int .i64 ((n : Nat) : Int)]]) [0, 1, 2, 3, 4, 5, 6, 7, 8, 9, 10, 11, 12] mixed ?_
    refine WA.take (by kernel_rfl) 0 (by decide) rfl (by kernel_rfl) (by kernel_rfl) (by kernel_rfl) (Calm.inBlock (calm_FQ _ _)) (Qt.loadB 3 rfl ta22 rfl rfl) trivial rfl (.take 0 rfl (.take 0 rfl (.use 0 rfl (fun _ h => h) (.take 1 rfl (.take 1 rfl (.take 1 rfl (.nil))))))) ?_
    refine WA.take (by kernel_rfl) 1 (by decide) rfl (by kernel_rfl) (by kernel_rfl) (by kernel_rfl) (Calm.inBlock (calm_FQ _ _)) (Qt.fieldAddrB tf30_1 rfl) trivial rfl (.take 0 rfl (.take 0 rfl (.use 0 rfl (fun _ h => h) (.take 1 rfl (.take 1 rfl (.take 1 rfl (.nil))))))) ?_
    refine WA.take (by kernel_rfl) 2 (by decide) rfl (by kernel_rfl) (by kernel_rfl) (by kernel_rfl) (Calm.inBlock (calm_FQ _ _)) (Qt.loadB 1 rfl ta3 rfl rfl) trivial rfl (.take 0 rfl (.take 0 rfl (.use 0 rfl (fun _ h => h) (.take 1 rfl (.take 1 rfl (.take 1 rfl (.nil))))))) ?_
    refine WA.take (by kernel_rfl) 3 (by decide) rfl (by kernel_rfl) (by kernel_rfl) (by kernel_rfl) (Calm.inBlock (calm_FQ _ _)) (Qt.loadB 3 rfl ta22 rfl rfl) trivial rfl (.take 0 rfl (.take 0 rfl (.use 0 rfl (fun _ h => h) (.take 1 rfl (.take 1 rfl (.take 1 rfl (.nil))))))) ?_
    refine WA.take (by kernel_rfl) 4 (by decide) rfl (by kernel_rfl) (by kernel_rfl) (by kernel_rfl) (Calm.inBlock (calm_FQ _ _)) (Qt.fieldAddrB tf30_1 rfl) trivial rfl (.take 0 rfl (.take 0 rfl (.use 0 rfl (fun _ h => h) (.take 1 rfl (.take 1 rfl (.take 1 rfl (.nil))))))) ?_
    refine WA.take (by kernel_rfl) 5 (by decide) rfl (by kernel_rfl) (by kernel_rfl) (by kernel_rfl) (Calm.inBlock (calm_FQ _ _)) (Qt.loadB 1 rfl ta3 rfl rfl) trivial rfl (.take 0 rfl (.take 0 rfl (.use 0 rfl (fun _ h => h) (.take 1 rfl (.take 1 rfl (.take 1 rfl (.nil))))))) ?_
    refine WA.take (by kernel_rfl) 6 (by decide) rfl (by kernel_rfl) (by kernel_rfl) (by kernel_rfl) (Calm.inBlock (calm_FQ _ _)) (Qt.fieldAddrB tf48_0 rfl) trivial rfl (.take 0 rfl (.take 0 rfl (.use 0 rfl (fun _ h => h) (.take 1 rfl (.take 1 rfl (.take 1 rfl (.nil))))))) ?_
    refine WA.take (by kernel_rfl) 7 (by decide) rfl (by kernel_rfl) (by kernel_rfl) (by kernel_rfl) (Calm.inBlock (calm_FQ _ _)) (Qt.loadB 0 rfl ta9 rfl rfl) trivial rfl (.take 0 rfl (.take 0 rfl (.use 0 rfl (fun _ h => h) (.take 1 rfl (.take 1 rfl (.take 1 rfl (.nil))))))) ?_
    refine WA.take (by kernel_rfl) 8 (by decide) rfl (by kernel_rfl) (by kernel_rfl) (by kernel_rfl) (Calm.inBlock (calm_FQ _ _)) (Qt.fieldAddrB tf48_1 rfl) trivial rfl (.take 0 rfl (.take 0 rfl (.use 0 rfl (fun _ h => h) (.take 1 rfl (.take 1 rfl (.take 1 rfl (.nil))))))) ?_
    refine WA.take (by kernel_rfl) 9 (by decide) rfl (by kernel_rfl) (by kernel_rfl) (by kernel_rfl) (Calm.inBlock (calm_FQ _ _)) (Qt.loadB 0 rfl ta9 rfl rfl) trivial rfl (.take 0 rfl (.take 0 rfl (.use 0 rfl (fun _ h => h) (.take 1 rfl (.take 1 rfl (.take 1 rfl (.nil))))))) ?_
    refine WA.one 10 (by kernel_rfl) ?_
    refine WO.quiet rfl (Qt.indexAddrB j Tryd.underlying22 ti42 rfl rfl (by first | assumption | omega)) trivial rfl (.take 0 rfl (.take 0 rfl (.use 0 rfl (fun _ h => h) (.take 1 rfl (.take 1 rfl (.take 1 rfl (.nil))))))) ?_
    refine WA.take (by kernel_rfl) 11 (by decide) rfl (by kernel_rfl) (by kernel_rfl) (by kernel_rfl) (Calm.inBlock (calm_FQ _ _)) (Qt.fieldAddrB tf42_2 rfl) trivial rfl (.take 0 rfl (.take 0 rfl (.use 0 rfl (fun _ h => h) (.take 1 rfl (.take 1 rfl (.take 1 rfl (.nil))))))) ?_
    refine WA.one 12 (by kernel_rfl) ?_
    refine WO.loud rfl (.take 6 rfl (.nil)) (Ld.storeR (j := j) (o := 3) (Contact.mk (cs[j].kind) (cs[j].sp) (cs[j].n) f (cs[j].to)) (by first | assumption | omega | (simp; omega)) hel_1 ti9 rfl rfl rfl rfl rfl rfl (fun S w h => rfl)) trivial rfl (by rintro _ _ ⟨cur_1, hel_2, hoth_1, rfl⟩; exact ⟨_, (.take 1 rfl (.take 1 rfl (.use 1 rfl (fun _ h => h) (.take 2 rfl (.take 2 rfl (.take 2 rfl (.nil)))))))⟩) ?_
    rintro _ _ ⟨cur_1, hel_2, hoth_1, rfl⟩
    refine WA.phase (K' := [0, 1, 2, 3, 4, 5, 6, 7, 8, 9, 10, 11, 12, 13, 14, 15]) (Γq' := [blk b_2 48 [.string f, .string to], blk b_1 30 [.int .i64 t.kind, .int .i64 ((j : Nat) : Int), .slice A t.kids.length q], rd kTree A q t.kids, blk bo 22 [.slice (some ⟨b, 0, none⟩) cs.length c], blk bl 56 [.func (.func 18) #[] [.pointer (some ⟨bo, 0, none⟩), .pointer (some ⟨bl, 0, none⟩), .pointer (some ⟨bn, 0, none⟩)].toArray], blk bn 3 [.int .i64 ((n : Nat) : Int)]]) (by kernel_rfl) ?_
    refine WA.one 13 (by kernel_rfl) ?_
    refine WO.quiet rfl (Qt.indexAddrB j Tryd.underlying22 ti42 rfl rfl (by first | assumption | omega)) trivial rfl (.take 1 rfl (.take 1 rfl (.use 1 rfl (fun _ h => h) (.take 2 rfl (.take 2 rfl (.take 2 rfl (.nil))))))) ?_
    refine WA.take (by kernel_rfl) 14 (by decide) rfl (by kernel_rfl) (by kernel_rfl) (by kernel_rfl) (Calm.inBlock (calm_FQ _ _)) (Qt.fieldAddrB tf42_3 rfl) trivial rfl (.take 1 rfl (.take 1 rfl (.use 1 rfl (fun _ h => h) (.take 2 rfl (.take 2 rfl (.take 2 rfl (.nil))))))) ?_
    refine WA.one 15 (by kernel_rfl) ?_
    refine WO.loud rfl (.take 0 rfl (.nil)) (Ld.storeR (j := j) (o := 4) (Contact.mk (cs[j].kind) (cs[j].sp) (cs[j].n) f to) (by first | assumption | omega | (simp; omega)) hel_2 ti9 rfl rfl rfl rfl rfl rfl (fun S w h => rfl)) trivial rfl (by rintro _ _ ⟨cur_2, hel_3, hoth_2, rfl⟩; exact ⟨_, (.take 1 rfl (.take 1 rfl (.use 1 rfl (fun _ h => h) (.take 2 rfl (.take 2 rfl (.take 2 rfl (.nil)))))))⟩) ?_
    rintro _ _ ⟨cur_2, hel_3, hoth_2, rfl⟩
    refine WA.done (by kernel_rfl) ?_
    refine WX.block_end ?_
    rw [layT_leaf t f to (n, cs) (by omega), show t.n.toNat = j from by omega, setEnds_at hj0]
    refine WX.end0 (.take 4 rfl (.take 4 rfl (.take 4 rfl (.take 0 rfl (.nil))))) rfl ?_
    exact ⟨cur_2, rfl, by simp only [List.set_set]⟩
  ·
    refine WC.seq ?_
    refine WC.region ?_
    refine WL.quiet (Qt.eql rfl rfl) rfl rfl ?_
    refine WL.quiet (Qt.assign rfl) rfl rfl ?_
    refine WL.nil ?_
    refine WX.next ?_
    refine WC.condD rfl (fun hc_2 => ?_) (fun hc_2 => ?_)
    ·
      refine WC.seq ?_
      refine WC.region ?_
      refine WL.quiet (Qt.fieldAddrB tf30_2 rfl) rfl rfl ?_
      refine WL.quiet (Qt.loadB 1 rfl ta28 rfl rfl) rfl rfl ?_
      refine WL.quiet (Qt.lenS Tryd.underlying28 rfl) rfl rfl ?_
      refine WL.quiet (Qt.move rfl) rfl rfl ?_
      refine WL.nil ?_
      refine WX.next ?_
      refine WC.block ?_
      refine WC.loop (fun w0 : Nat × Nat × (List Contact) × (List Value) => [(3, .pointer (some ⟨bl, 0, none⟩)), (6, .pointer (some ⟨b_2, 0, none⟩)), (70, .slice A t.kids.length q), (71, .int .i64 ((t.kids.length : Nat) : Int)), (72, .int .i64 ((w0.1 : Nat) : Int))]) (fun w0 => [blk b_2 48 [.string f, .string to], blk b_1 30 [.int .i64 t.kind, .int .i64 t.n, .slice A t.kids.length q], rd kTree A q t.kids, blk bo 22 [.slice (some ⟨b, 0, none⟩) cs.length c], blk bl 56 [.func (.func 18) #[] [.pointer (some ⟨bo, 0, none⟩), .pointer (some ⟨bl, 0, none⟩), .pointer (some ⟨bn, 0, none⟩)].toArray], blk bn 3 [.int .i64 ((w0.2.1 : Nat) : Int)], rowL kContact 42 b c w0.2.2.1 w0.2.2.2]) (fun w0 => w0.1 ≤ t.kids.length ∧ (w0.2.1, w0.2.2.1) = layP (t.kids.take w0.1) f to (n, cs)) (fun w0 => t.kids.length - w0.1) (0, n, cs, cur) ⟨Nat.zero_le _, by rw [List.take_zero, layP]⟩ ⟨rfl, rfl, rfl, rfl, rfl, trivial⟩ (.take 0 rfl (.take 0 rfl (.use 0 rfl (fun _ h => h) (.take 1 rfl (.take 1 rfl (.take 1 rfl (.take 1 rfl (.nil)))))))) ?_
      rintro ⟨k, m, cs2, cu⟩ ⟨hk, hst⟩
      try dsimp only at hk hst
      have hcl : cs2.length = cs.length := by have := layP_len (t.kids.take k) f to (n, cs); rw [← hst] at this; exact this
      show WC _ _ _ _ _ _ [(3, .pointer (some ⟨bl, 0, none⟩)), (6, .pointer (some ⟨b_2, 0, none⟩)), (70, .slice A t.kids.length q), (71, .int .i64 ((t.kids.length : Nat) : Int)), (72, .int .i64 ((k : Nat) : Int))] [blk b_2 48 [.string f, .string to], blk b_1 30 [.int .i64 t.kind, .int .i64 t.n, .slice A t.kids.length q], rd kTree A q t.kids, blk bo 22 [.slice (some ⟨b, 0, none⟩) cs.length c], blk bl 56 [.func (.func 18) #[] [.pointer (some ⟨bo, 0, none⟩), .pointer (some ⟨bl, 0, none⟩), .pointer (some ⟨bn, 0, none⟩)].toArray], blk bn 3 [.int .i64 ((m : Nat) : Int)], rowL kContact 42 b c cs2 cu]
      refine WC.seq ?_
      refine WC.region ?_
      refine WL.quiet (Qt.lss rfl rfl) rfl rfl ?_
      refine WL.nil ?_
      refine WX.next ?_
      refine WC.seq ?_
      refine WC.condD rfl (fun hc_3 => ?_) (fun hc_3 => ?_)
      ·
        refine WC.skip ?_
        refine WX.next ?_
        refine WC.seq ?_
        refine WC.block ?_
        refine WC.seq ?_
        refine WC.region ?_
        have hj_2 : k < t.kids.length := by omega
        refine WL.learn 2 rfl (rd_at k hj_2 (vTree _)) ?_
        rintro ⟨p_1, ⟨A_1, c_1⟩⟩ hA_1
        refine WL.quiet (Qt.indexAddrE k hA_1 Tryd.underlying28 ti30 rfl rfl (by first | assumption | omega)) rfl rfl ?_
        refine WL.quiet (Qt.loadCA (p := p_1.add (k * 3)) (o := 0) 0 rfl ta30 ti30 rfl rfl) rfl rfl ?_
        refine WL.loud (.nil) (Ld.alloc ti30 rfl) trivial rfl ?_
        rintro _ _ ⟨b_3, rfl, rfl⟩
        refine WL.loud (.take 0 rfl (.nil)) (Ld.store ti30 rfl rfl rfl rfl rfl rfl) trivial rfl ?_
        rintro _ _ rfl
        refine WL.nil ?_
        refine WX.next ?_
        have hbd := layP_bound (cs := cs) (f := f) (to := to) hok (by omega) (show k < t.kids.length by omega) hn
        rw [← hst] at hbd
        try dsimp only at hbd
        refine WC.region ?_
        refine WL.quiet (Qt.loadB 7 rfl ta56 rfl rfl) rfl rfl ?_
        refine WL.quiet (Qt.loadBA 0 rfl ta30 ti30 rfl rfl) rfl rfl ?_
        refine WL.quiet (Qt.loadBA 3 rfl ta48 ti48 rfl rfl) rfl rfl ?_
        refine WL.call (.use 2 rfl (fun _ h => h) (.take 6 rfl (.take 6 rfl (.take 6 rfl (.take 6 rfl (.nil)))))) (Cl.val cb18 rfl rfl) (ih' (t.kids[k]) f to (m) cs2 _ hcl _ _ (by have := kid_size t k (by omega); omega) (ok_kid hok k (by omega)) (kid_range hok (by omega) hr (by omega)) (by omega)) trivial rfl ?_
        rintro _ _ ⟨cur_3, rfl, rfl⟩
        refine WL.nil ?_
        refine WX.block_end ?_
        refine WX.next ?_
        refine WC.region ?_
        refine WL.quiet (Qt.add rfl rfl (by omega)) rfl rfl ?_
        refine WL.quiet (Qt.move rfl) rfl rfl ?_
        refine WL.nil ?_
        exact WX.back (k + 1, (layT (t.kids[k]) f to (m, cs2)).1, (layT (t.kids[k]) f to (m, cs2)).2, cur_3) ⟨by omega, by rw [layP_take _ _ (by omega), ← hst]⟩ (by first | omega | (dsimp only; omega) | (simp; omega)) ⟨rfl, rfl, rfl, rfl, rfl, trivial⟩ (.take 7 rfl (.take 7 rfl (.use 7 rfl (fun _ h => h) (.take 0 rfl (.take 0 rfl (.take 0 rfl (.take 0 rfl (.nil))))))))
      ·
        refine WC.exit ?_
        refine WX.pass_exit ?_
        refine WX.pass_exit ?_
        refine WX.block_exit ?_
        refine WX.block_end ?_
        rw [layT_par t f to (n, cs) (by omega) (by omega)]
        rw [List.take_of_length_le (show t.kids.length ≤ k by omega)] at hst
        rw [← hst]
        refine WX.end0 (.take 3 rfl (.take 3 rfl (.take 3 rfl (.take 3 rfl (.nil))))) rfl ?_
        exact ⟨_, rfl, rfl⟩
    ·
      refine WC.seq ?_
      refine WC.region ?_
      refine WL.quiet (Qt.fieldAddrB tf30_2 rfl) rfl rfl ?_
      refine WL.quiet (Qt.loadB 1 rfl ta28 rfl rfl) rfl rfl ?_
      refine WL.quiet (Qt.lenS Tryd.underlying28 rfl) rfl rfl ?_
      refine WL.quiet (Qt.sub rfl rfl (by omega)) rfl rfl ?_
      refine WL.quiet (Qt.assign rfl) rfl rfl ?_
      refine WL.nil ?_
      refine WX.next ?_
      refine WC.seq ?_
      refine WC.seq ?_
      have hshape := ok_two hok (by omega)
      have hlast : ((t.kids.length : Nat) : Int) - 1 = ((t.kids.length - 1 : Nat) : Int) := by omega
      rw [hlast]
      refine WC.region ?_
      refine WL.quiet (Qt.fieldAddrB tf30_2 rfl) rfl rfl ?_
      refine WL.quiet (Qt.loadB 1 rfl ta28 rfl rfl) rfl rfl ?_
      refine WL.quiet (Qt.move rfl) rfl rfl ?_
      refine WL.learn (Z := Unit) 2 rfl (rd_take (t.kids.length - 1)) ?_
      rintro _ _
      refine WL.quiet (Qt.cutHighRd 3 rfl Tryd.underlying28 ti30 rfl rfl (by omega)) rfl rfl ?_
      refine WL.quiet (Qt.lenS Tryd.underlying28 rfl) rfl rfl ?_
      refine WL.quiet (Qt.move rfl) rfl rfl ?_
      refine WL.nil ?_
      refine WX.next ?_
      refine WC.block ?_
      refine WC.loop (fun w0 : Nat × Nat × (List Contact) × (List Value) × ByteArray => [(3, .pointer (some ⟨bl, 0, none⟩)), (4, .pointer (some ⟨bn, 0, none⟩)), (5, .pointer (some ⟨b_1, 0, none⟩)), (6, .pointer (some ⟨b_2, 0, none⟩)), (9, .int .i64 (((t.kids.length - 1) : Nat) : Int)), (22, .slice A ((t.kids.take (t.kids.length - 1)).length) q), (23, .int .i64 (((t.kids.take (t.kids.length - 1)).length : Nat) : Int)), (24, .int .i64 ((w0.1 : Nat) : Int))]) (fun w0 => [rd kTree A q (t.kids.take (t.kids.length - 1)), blk b_2 48 [.string w0.2.2.2.2, .string to], blk b_1 30 [.int .i64 t.kind, .int .i64 t.n, .slice A t.kids.length q], rd kTree A q t.kids, blk bo 22 [.slice (some ⟨b, 0, none⟩) cs.length c], blk bl 56 [.func (.func 18) #[] [.pointer (some ⟨bo, 0, none⟩), .pointer (some ⟨bl, 0, none⟩), .pointer (some ⟨bn, 0, none⟩)].toArray], blk bn 3 [.int .i64 ((w0.2.1 : Nat) : Int)], rowL kContact 42 b c w0.2.2.1 w0.2.2.2.1]) (fun w0 => w0.1 ≤ (t.kids.take (t.kids.length - 1)).length ∧ (w0.2.2.2.2, w0.2.1, w0.2.2.1) = laySeq (t.kids.take w0.1) f (n, cs)) (fun w0 => (t.kids.take (t.kids.length - 1)).length - w0.1) (0, n, cs, cur, f) ⟨Nat.zero_le _, by rw [List.take_zero, laySeq]⟩ ⟨rfl, rfl, rfl, rfl, rfl, rfl, rfl, rfl, trivial⟩ (.use 0 rfl (fun _ h => h) (.take 1 rfl (.take 1 rfl (.use 1 rfl (fun _ h => h) (.take 2 rfl (.take 2 rfl (.take 2 rfl (.take 2 rfl (.nil))))))))) ?_
      rintro ⟨k, m, cs2, cu, at0⟩ ⟨hk, hst⟩
      try dsimp only at hk hst
      have hcl : cs2.length = cs.length := by have := laySeq_len (t.kids.take k) f (n, cs); rw [← hst] at this; exact this
      have htl : (t.kids.take (t.kids.length - 1)).length = t.kids.length - 1 := by rw [List.length_take]; omega
      show WC _ _ _ _ _ _ [(3, .pointer (some ⟨bl, 0, none⟩)), (4, .pointer (some ⟨bn, 0, none⟩)), (5, .pointer (some ⟨b_1, 0, none⟩)), (6, .pointer (some ⟨b_2, 0, none⟩)), (9, .int .i64 (((t.kids.length - 1) : Nat) : Int)), (22, .slice A ((t.kids.take (t.kids.length - 1)).length) q), (23, .int .i64 (((t.kids.take (t.kids.length - 1)).length : Nat) : Int)), (24, .int .i64 ((k : Nat) : Int))] [rd kTree A q (t.kids.take (t.kids.length - 1)), blk b_2 48 [.string at0, .string to], blk b_1 30 [.int .i64 t.kind, .int .i64 t.n, .slice A t.kids.length q], rd kTree A q t.kids, blk bo 22 [.slice (some ⟨b, 0, none⟩) cs.length c], blk bl 56 [.func (.func 18) #[] [.pointer (some ⟨bo, 0, none⟩), .pointer (some ⟨bl, 0, none⟩), .pointer (some ⟨bn, 0, none⟩)].toArray], blk bn 3 [.int .i64 ((m : Nat) : Int)], rowL kContact 42 b c cs2 cu]
      refine WC.seq ?_
      refine WC.region ?_
      refine WL.quiet (Qt.lss rfl rfl) rfl rfl ?_
      refine WL.nil ?_
      refine WX.next ?_
      refine WC.seq ?_
      refine WC.condD rfl (fun hc_4 => ?_) (fun hc_4 => ?_)
      ·
        refine WC.skip ?_
        refine WX.next ?_
        refine WC.seq ?_
        refine WC.block ?_
        refine WC.seq ?_
        refine WC.region ?_
        have hj_3 : k < t.kids.length := by omega
        refine WL.learn 3 rfl (rd_at k hj_3 (vTree _)) ?_
        rintro ⟨p_2, ⟨A_2, c_2⟩⟩ hA_2
        refine WL.quiet (Qt.indexAddrE k hA_2 Tryd.underlying28 ti30 rfl rfl (by first | assumption | omega)) rfl rfl ?_
        refine WL.quiet (Qt.loadCA (p := p_2.add (k * 3)) (o := 0) 0 rfl ta30 ti30 rfl rfl) rfl rfl ?_
        refine WL.loud (.nil) (Ld.alloc ti30 rfl) trivial rfl ?_
        rintro _ _ ⟨b_4, rfl, rfl⟩
        refine WL.loud (.take 0 rfl (.nil)) (Ld.store ti30 rfl rfl rfl rfl rfl rfl) trivial rfl ?_
        rintro _ _ rfl
        refine WL.nil ?_
        refine WX.next ?_
        refine WC.seq ?_
        have hbd := laySeq_bound (cs := cs) (f := f) hok (by omega) (show k + 1 < t.kids.length by omega) hn
        rw [← hst] at hbd
        try dsimp only at hbd
        have htk : (t.kids.take (t.kids.length - 1))[k]'(by omega) = t.kids[k] := List.getElem_take ..
        refine WC.region ?_
        refine WL.quiet (Qt.loadB 9 rfl ta3 rfl rfl) rfl rfl ?_
        refine WL.quiet (Qt.add rfl rfl (by omega)) rfl rfl ?_
        refine WL.loud (.take 9 rfl (.nil)) (Ld.store ti3 rfl rfl rfl rfl rfl rfl) trivial rfl ?_
        rintro _ _ rfl
        refine WL.nil ?_
        refine WX.next ?_
        refine WC.seq ?_
        refine WC.region ?_
        refine WL.quiet (Qt.loadB 0 rfl ta3 rfl rfl) rfl rfl ?_
        refine WL.call (.nil) (Cl.func cb19 rfl) (Spec.ofPure (Any.strconv_Itoa_small zitoa (m + 1) (by omega))) trivial rfl ?_
        rintro _ _ ⟨rfl, rfl⟩
        refine WL.quiet (Qt.sadd rfl rfl (name_size (by omega))) rfl rfl ?_
        refine WL.quiet (Qt.assign rfl) rfl rfl ?_
        refine WL.nil ?_
        refine WX.next ?_
        refine WC.seq ?_
        refine WC.region ?_
        refine WL.quiet (Qt.loadB 9 rfl ta56 rfl rfl) rfl rfl ?_
        refine WL.quiet (Qt.loadBA 1 rfl ta30 ti30 rfl rfl) rfl rfl ?_
        refine WL.quiet (Qt.fieldAddrB tf48_0 rfl) rfl rfl ?_
        refine WL.quiet (Qt.loadB 5 rfl ta9 rfl rfl) rfl rfl ?_
        refine WL.quiet (Qt.move rfl) rfl rfl ?_
        refine WL.quiet (Qt.build tp48 ti48 rfl rfl rfl) rfl rfl ?_
        refine WL.call (.use 3 rfl (fun _ h => h) (.take 8 rfl (.take 8 rfl (.take 0 rfl (.take 7 rfl (.nil)))))) (Cl.val cb18 rfl rfl) (ih' (t.kids[k]) at0 ((⟨#[110]⟩ : ByteArray) ++ (digits (m + 1))) (m + 1) cs2 _ hcl _ _ (by have := kid_size t k (by omega); omega) (ok_kid hok k (by omega)) (kid_range hok (by omega) hr (by omega)) (by omega)) trivial rfl ?_
        rintro _ _ ⟨cur_4, rfl, rfl⟩
        refine WL.nil ?_
        refine WX.next ?_
        refine WC.region ?_
        refine WL.quiet (Qt.move rfl) rfl rfl ?_
        refine WL.quiet (Qt.fieldAddrB tf48_0 rfl) rfl rfl ?_
        refine WL.loud (.take 8 rfl (.nil)) (Ld.store ti9 rfl rfl rfl rfl rfl rfl) trivial rfl ?_
        rintro _ _ rfl
        refine WL.nil ?_
        refine WX.block_end ?_
        refine WX.next ?_
        refine WC.region ?_
        refine WL.quiet (Qt.add rfl rfl (by omega)) rfl rfl ?_
        refine WL.quiet (Qt.move rfl) rfl rfl ?_
        refine WL.nil ?_
        exact WX.back (k + 1, (layT (t.kids[k]) at0 ((⟨#[110]⟩ : ByteArray) ++ (digits (m + 1))) (m + 1, cs2)).1, (layT (t.kids[k]) at0 ((⟨#[110]⟩ : ByteArray) ++ (digits (m + 1))) (m + 1, cs2)).2, cur_4, nodeName (m + 1)) ⟨by omega, by rw [laySeq_take _ _ (by omega), ← hst]; rfl⟩ (by first | omega | (dsimp only; omega) | (simp; omega)) ⟨rfl, rfl, rfl, rfl, rfl, rfl, rfl, rfl, trivial⟩ (.use 8 rfl (fun _ h => h) (.take 0 rfl (.take 8 rfl (.use 8 rfl (fun _ h => h) (.take 0 rfl (.take 0 rfl (.take 0 rfl (.take 0 rfl (.nil)))))))))
      ·
        refine WC.exit ?_
        refine WX.pass_exit ?_
        refine WX.pass_exit ?_
        refine WX.block_exit ?_
        refine WX.next ?_
        have hke : k = t.kids.length - 1 := by omega
        rw [hke] at hst
        have hbd := laySeq_boundL (cs := cs) (f := f) hok (by omega) (show t.kids.length - 1 < t.kids.length by omega) hn
        rw [← hst] at hbd
        try dsimp only at hbd
        have hj_4 : (t.kids.length - 1) < t.kids.length := by omega
        refine WC.learn 3 rfl (rd_at (t.kids.length - 1) hj_4 (vTree _)) ?_
        rintro ⟨p_3, ⟨A_3, c_3⟩⟩ hA_3
        refine WC.draw (Γq := [cellsAt (p_3.add ((t.kids.length - 1) * 3)) [.int .i64 (t.kids[(t.kids.length - 1)].kind), .int .i64 (t.kids[(t.kids.length - 1)].n), .slice A_3 (t.kids[(t.kids.length - 1)].kids.length) c_3], rd kTree A_3 c_3 (t.kids[(t.kids.length - 1)].kids), rd kTree A q (t.kids.take (t.kids.length - 1)), blk b_2 48 [.string at0, .string to], blk b_1 30 [.int .i64 t.kind, .int .i64 t.n, .slice A t.kids.length q], rd kTree A q t.kids]) [0, 1, 2, 3, 4, 5, 6, 7] mixed ?_
        refine WA.take (by kernel_rfl) 1 (by decide) rfl (by kernel_rfl) (by kernel_rfl) (by kernel_rfl) (Calm.inBlock (calm_FQ _ _)) (Qt.fieldAddrB tf30_2 rfl) trivial rfl (.use 0 rfl (fun _ h => h) (.use 1 rfl (fun _ h => h) (.use 2 rfl (fun _ h => h) (.take 3 rfl (.take 3 rfl (.use 3 rfl (fun _ h => h) (.nil))))))) ?_
        refine WA.take (by kernel_rfl) 2 (by decide) rfl (by kernel_rfl) (by kernel_rfl) (by kernel_rfl) (Calm.inBlock (calm_FQ _ _)) (Qt.loadB 4 rfl ta28 rfl rfl) trivial rfl (.use 0 rfl (fun _ h => h) (.use 1 rfl (fun _ h => h) (.use 2 rfl (fun _ h => h) (.take 3 rfl (.take 3 rfl (.use 3 rfl (fun _ h => h) (.nil))))))) ?_
        refine WA.take (by kernel_rfl) 3 (by decide) rfl (by kernel_rfl) (by kernel_rfl) (by kernel_rfl) (Calm.inBlock (calm_FQ _ _)) (Qt.move rfl) trivial rfl (.use 0 rfl (fun _ h => h) (.use 1 rfl (fun _ h => h) (.use 2 rfl (fun _ h => h) (.take 3 rfl (.take 3 rfl (.use 3 rfl (fun _ h => h) (.nil))))))) ?_
        refine WA.take (by kernel_rfl) 4 (by decide) rfl (by kernel_rfl) (by kernel_rfl) (by kernel_rfl) (Calm.inBlock (calm_FQ _ _)) (Qt.indexAddrE (t.kids.length - 1) hA_3 Tryd.underlying28 ti30 rfl rfl (by first | assumption | omega)) trivial rfl (.use 0 rfl (fun _ h => h) (.use 1 rfl (fun _ h => h) (.use 2 rfl (fun _ h => h) (.take 3 rfl (.take 3 rfl (.use 3 rfl (fun _ h => h) (.nil))))))) ?_
        refine WA.take (by kernel_rfl) 5 (by decide) rfl (by kernel_rfl) (by kernel_rfl) (by kernel_rfl) (Calm.inBlock (calm_FQ _ _)) (Qt.loadCA (p := p_3.add ((t.kids.length - 1) * 3)) (o := 0) 0 rfl ta30 ti30 rfl rfl) trivial rfl (.use 0 rfl (fun _ h => h) (.use 1 rfl (fun _ h => h) (.use 2 rfl (fun _ h => h) (.take 3 rfl (.take 3 rfl (.use 3 rfl (fun _ h => h) (.nil))))))) ?_
        refine WA.take (by kernel_rfl) 6 (by decide) rfl (by kernel_rfl) (by kernel_rfl) (by kernel_rfl) (Calm.inBlock (calm_FQ _ _)) (Qt.loadBA 3 rfl ta48 ti48 rfl rfl) trivial rfl (.use 0 rfl (fun _ h => h) (.use 1 rfl (fun _ h => h) (.use 2 rfl (fun _ h => h) (.take 3 rfl (.take 3 rfl (.use 3 rfl (fun _ h => h) (.nil))))))) ?_
        refine WA.one 0 (by kernel_rfl) ?_
        refine WO.quiet rfl (Qt.loadB 7 rfl ta56 rfl rfl) trivial rfl (.use 0 rfl (fun _ h => h) (.use 1 rfl (fun _ h => h) (.use 2 rfl (fun _ h => h) (.take 3 rfl (.take 3 rfl (.use 3 rfl (fun _ h => h) (.nil))))))) ?_
        refine WA.one 7 (by kernel_rfl) ?_
        refine WO.call rfl (.use 1 rfl (fun _ h => h) (.take 6 rfl (.take 6 rfl (.take 6 rfl (.take 6 rfl (.nil)))))) (Cl.val cb18 rfl rfl) (ih' (t.kids[(t.kids.length - 1)]) at0 to (m) cs2 _ hcl _ _ (by have := kid_size t (t.kids.length - 1) (by omega); omega) (ok_kid hok (t.kids.length - 1) (by omega)) (kid_range hok (by omega) hr (by omega)) (by omega)) trivial rfl (by rintro _ _ ⟨cur_5, rfl, rfl⟩; exact ⟨_, (.use 4 rfl (fun _ h => h) (.use 5 rfl (fun _ h => h) (.use 6 rfl (fun _ h => h) (.take 7 rfl (.take 7 rfl (.use 7 rfl (fun _ h => h) (.nil)))))))⟩) ?_
        rintro _ _ ⟨cur_5, rfl, rfl⟩
        refine WA.done (by kernel_rfl) ?_
        refine WX.block_end ?_
        rw [layT_ser t f to (n, cs) (by omega) (by omega), layS_kids hshape.2 f to (n, cs), ← hst]
        refine WX.end0 (.take 0 rfl (.take 0 rfl (.take 0 rfl (.take 0 rfl (.nil))))) rfl ?_
        exact ⟨_, rfl, rfl⟩
theorem layW (t : PT) (f to : ByteArray) (n : Nat) (cs : List Contact) (cur : List Value) (A : Option Addr) (q b c bo bl bn : Nat) (hok : t.ok) (hr : ∀ x, x ∈ t.leaves → 0 ≤ x ∧ x < (cs.length : Int)) (hn : n + t.leaves.length ≤ 99) : Spec μ Tryd.prog 18 #[.agg [.int .i64 t.kind, .int .i64 t.n, .slice A t.kids.length q].toArray, .agg [.string f, .string to].toArray, .pointer (some ⟨bo, 0, none⟩), .pointer (some ⟨bl, 0, none⟩), .pointer (some ⟨bn, 0, none⟩)] [rd kTree A q t.kids, blk bo 22 [.slice (some ⟨b, 0, none⟩) cs.length c], blk bl 56 [.func (.func 18) #[] [.pointer (some ⟨bo, 0, none⟩), .pointer (some ⟨bl, 0, none⟩), .pointer (some ⟨bn, 0, none⟩)].toArray], blk bn 3 [.int .i64 ((n : Nat) : Int)], rowL kContact 42 b c cs cur] fun v Δ => ∃ cur1, v = .tuple #[] ∧ Δ = [blk bo 22 [.slice (some ⟨b, 0, none⟩) cs.length c], blk bl 56 [.func (.func 18) #[] [.pointer (some ⟨bo, 0, none⟩), .pointer (some ⟨bl, 0, none⟩), .pointer (some ⟨bn, 0, none⟩)].toArray], blk bn 3 [.int .i64 (((layT t f to (n, cs)).1 : Nat) : Int)], rowL kContact 42 b c (layT t f to (n, cs)).2 cur1] := layW_ih _ t f to n cs cur A q b c bo bl bn (Nat.lt_succ_self _) hok hr hn

end Go.Proofs.YtkhmbhdlfpalkaaDoor.Sep

/- A walk, printed by gen.py out of hints. -/
namespace Go.Proofs.YtkhmbhdlfpalkaaDoor.Sep
open Go
variable {μ : Prop}
theorem expandW (t : PT) (l : List Contact) (A B : Option Addr) (c d : Nat) (hv : Vld (l.length : Int) [] t) (hl : t.leaves.length = l.length) (hb : l.length ≤ 98) : Spec μ Tryd.prog 8 #[.agg [.int .i64 t.kind, .int .i64 t.n, .slice A t.kids.length c].toArray, .slice B l.length d] [rd kTree A c t.kids, rd kContact B d l] fun v Δ => ∃ A1 c1, v = .tuple #[.agg #[.string (⟨#[]⟩ : ByteArray), .slice A1 (layT t sL sR (0, l)).2.length c1, .slice none 0 0, .string (⟨#[]⟩ : ByteArray)], .int .i64 0] ∧ Δ = [rd kContact A1 c1 (layT t sL sR (0, l)).2] := by
  refine Spec.of_body (n := 27) Tryd.func8 rfl rfl rfl fun w0 S0 O0 => ?_
  show WC _ _ _ _ _ _ [(0, .agg [.int .i64 t.kind, .int .i64 t.n, .slice A t.kids.length c].toArray), (1, .slice B l.length d)] [rd kTree A c t.kids, rd kContact B d l]
  refine WC.learn (Z := Unit) (Δ := fun _ => []) (φ := fun _ => t.kids.length ≤ c ∧ c ≤ 9223372036854775807) 0 rfl (fun S w h => ⟨(), rd_bounds h, nofacts⟩) ?_
  rintro _ ⟨hb_1, hb_2⟩
  refine WC.learn (Z := Unit) 1 rfl rd_none ?_
  rintro _ hnone
  refine WC.seq ?_
  refine WC.region ?_
  refine WL.loud (.nil) (Ld.box rfl rfl) trivial rfl ?_
  rintro _ _ ⟨b_1, rfl, rfl⟩
  refine WL.loud (.nil) (Ld.alloc ti25 rfl) trivial rfl ?_
  rintro _ _ ⟨b_2, rfl, rfl⟩
  refine WL.quiet (Qt.assign rfl) rfl rfl ?_
  refine WL.nil ?_
  refine WX.next ?_
  refine WC.seq ?_
  refine WC.seq ?_
  refine WC.region ?_
  refine WL.quiet (Qt.loadBA 1 rfl ta30 ti30 rfl rfl) rfl rfl ?_
  refine WL.quiet (Qt.move rfl) rfl rfl ?_
  refine WL.quiet (Qt.lenS Tryd.underlying22 rfl) rfl rfl ?_
  refine WL.call (.use 2 rfl (fun _ h => h) (.nil)) (Cl.func cb9 rfl) (treeCheckW t ((l.length : Nat) : Int) _ _) trivial rfl ?_
  rintro _ _ ⟨e_1, rfl, rfl, hck_1⟩
  refine WL.quiet (Qt.assign rfl) rfl rfl ?_
  refine WL.nil ?_
  refine WX.next ?_
  refine WC.seq ?_
  have he0 : e_1 = 0 := hck_1.2 ⟨hv, by omega⟩
  have hpos : 0 < l.length := by have := ok_leaves t hv.1; omega
  refine WC.region ?_
  refine WL.quiet (Qt.move rfl) rfl rfl ?_
  refine WL.quiet (Qt.neq rfl rfl) rfl rfl ?_
  refine WL.nil ?_
  refine WX.next ?_
  refine WC.condD rfl (fun hc_1 => ?_) (fun hc_1 => ?_)
  ·
    exact absurd he0 hc_1
  ·
    refine WC.skip ?_
    refine WX.next ?_
    refine WC.seq ?_
    refine WC.region ?_
    refine WL.quiet (Qt.move rfl) rfl rfl ?_
    refine WL.call (.use 3 rfl (fun _ h => h) (.nil)) (Cl.func cb17 rfl) (cloneW l _ _ hnone (by omega)) trivial rfl ?_
    rintro _ _ ⟨A_1, c_1, rfl, rfl⟩
    refine WL.loud (.nil) (Ld.alloc ti22 rfl) trivial rfl ?_
    rintro _ _ ⟨b_3, rfl, rfl⟩
    refine WL.loud (.take 0 rfl (.nil)) (Ld.store ti22 rfl rfl rfl rfl rfl rfl) trivial rfl ?_
    rintro _ _ rfl
    refine WL.nil ?_
    refine WX.next ?_
    refine WC.seq ?_
    refine WC.turn (.take 1 rfl (.nil)) (row_open (hpos)) ?_
    rintro _ ⟨b_4, cur_1, rfl, rfl⟩
    refine WC.region ?_
    refine WL.loud (.nil) (Ld.alloc ti3 rfl) trivial rfl ?_
    rintro _ _ ⟨b_5, rfl, rfl⟩
    refine WL.loud (.take 0 rfl (.nil)) (Ld.store ti3 rfl rfl rfl rfl rfl rfl) trivial rfl ?_
    rintro _ _ rfl
    refine WL.nil ?_
    refine WX.next ?_
    refine WC.seq ?_
    refine WC.region ?_
    refine WL.loud (.nil) (Ld.alloc ti56 rfl) trivial rfl ?_
    rintro _ _ ⟨b_6, rfl, rfl⟩
    refine WL.nil ?_
    refine WX.next ?_
    refine WC.seq ?_
    refine WC.region ?_
    refine WL.quiet (Qt.makeFunc (vs := []) rfl rfl) rfl rfl ?_
    refine WL.loud (.take 0 rfl (.nil)) (Ld.store ti56 rfl rfl rfl rfl rfl rfl) trivial rfl ?_
    rintro _ _ rfl
    refine WL.nil ?_
    refine WX.next ?_
    refine WC.seq ?_
    refine WC.region ?_
    refine WL.quiet (Qt.loadB 0 rfl ta56 rfl rfl) rfl rfl ?_
    refine WL.quiet (Qt.loadBA 5 rfl ta30 ti30 rfl rfl) rfl rfl ?_
    refine WL.quiet (Qt.build tp48 ti48 rfl rfl rfl) rfl rfl ?_
    refine WL.call (.use 6 rfl (fun _ h => h) (.take 3 rfl (.take 0 rfl (.take 0 rfl (.take 0 rfl (.nil)))))) (Cl.val cb18 rfl rfl) (layW t sL sR 0 l cur_1 _ _ b_4 c_1 b_3 b_6 b_5 hv.1 hv.2.1 (by omega)) trivial rfl ?_
    rintro _ _ ⟨cur_2, rfl, rfl⟩
    refine WL.nil ?_
    refine WX.next ?_
    refine WC.seq ?_
    refine WC.region ?_
    refine WL.quiet (Qt.loadB 0 rfl ta22 rfl rfl) rfl rfl ?_
    refine WL.quiet (Qt.build tp25 ti25 rfl rfl rfl) rfl rfl ?_
    refine WL.loud (.take 4 rfl (.nil)) (Ld.store ti25 rfl rfl rfl rfl rfl rfl) trivial rfl ?_
    rintro _ _ rfl
    refine WL.quiet (Qt.assign rfl) rfl rfl ?_
    refine WL.nil ?_
    refine WX.next ?_
    refine WC.ret ?_
    refine WX.turn (.take 4 rfl (.nil)) (row_close) ?_
    rintro _ rfl
    refine WX.turn (.take 0 rfl (.nil)) (freeze_row) ?_
    rintro _ rfl
    refine WX.retC1 1 (.use 0 rfl (fun _ h => h) (.nil)) rfl rfl rfl rfl ta25 ti25 rfl ?_
    exact ⟨_, _, by rw [layT_len], rfl⟩

end Go.Proofs.YtkhmbhdlfpalkaaDoor.Sep

/- A walk, printed by gen.py out of hints. -/
namespace Go.Proofs.YtkhmbhdlfpalkaaDoor.Sep
open Go
variable {μ : Prop}
theorem equalFuncW (xs ys : List PT) (A B : Option Addr) (c d : Nat) (heq : ∀ (k : Nat) (h1 : k < xs.length) (h2 : k < ys.length) (A B : Option Addr) (c d : Nat), Spec μ Tryd.prog 7 #[.agg #[.int .i64 xs[k].kind, .int .i64 xs[k].n, .slice A xs[k].kids.length c], .agg #[.int .i64 ys[k].kind, .int .i64 ys[k].n, .slice B ys[k].kids.length d]] [rd kTree A c xs[k].kids, rd kTree B d ys[k].kids] fun v Δ => v = .bool (same xs[k] ys[k]) ∧ Δ = []) : Spec μ Tryd.prog 16 #[.slice A xs.length c, .slice B ys.length d, .func (.func 7) #[] #[]] [rd kTree A c xs, rd kTree B d ys] fun v Δ => v = .bool (same xs ys) ∧ Δ = [] := by
  refine Spec.of_body (n := 32) Tryd.func16 rfl rfl rfl fun w0 S0 O0 => ?_
  show WC _ _ _ _ _ _ [(0, .slice A xs.length c), (1, .slice B ys.length d), (2, .func (.func 7) #[] #[])] [rd kTree A c xs, rd kTree B d ys]
  refine WC.learn (Z := Unit) (Δ := fun _ => []) (φ := fun _ => xs.length ≤ c ∧ c ≤ 9223372036854775807) 0 rfl (fun S w h => ⟨(), rd_bounds h, nofacts⟩) ?_
  rintro _ ⟨hb_1, hb_2⟩
  refine WC.learn (Z := Unit) (Δ := fun _ => []) (φ := fun _ => ys.length ≤ d ∧ d ≤ 9223372036854775807) 1 rfl (fun S w h => ⟨(), rd_bounds h, nofacts⟩) ?_
  rintro _ ⟨hb_3, hb_4⟩
  refine WC.seq ?_
  refine WC.region ?_
  refine WL.quiet (Qt.assign rfl) rfl rfl ?_
  refine WL.nil ?_
  refine WX.next ?_
  refine WC.seq ?_
  refine WC.seq ?_
  refine WC.region ?_
  refine WL.quiet (Qt.move rfl) rfl rfl ?_
  refine WL.quiet (Qt.lenS Tryd.underlying28 rfl) rfl rfl ?_
  refine WL.quiet (Qt.move rfl) rfl rfl ?_
  refine WL.quiet (Qt.lenS Tryd.underlying28 rfl) rfl rfl ?_
  refine WL.quiet (Qt.neq rfl rfl) rfl rfl ?_
  refine WL.nil ?_
  refine WX.next ?_
  refine WC.condD rfl (fun hc_1 => ?_) (fun hc_1 => ?_)
  ·
    refine WC.seq ?_
    refine WC.region ?_
    refine WL.quiet (Qt.assign rfl) rfl rfl ?_
    refine WL.nil ?_
    refine WX.next ?_
    refine WC.ret ?_
    refine WX.pass_ret ?_
    refine WX.ret1 (.nil) rfl rfl ?_
    exact ⟨by rw [same_not]; exact not_of_length (by omega), rfl⟩
  ·
    refine WC.skip ?_
    refine WX.next ?_
    refine WC.seq ?_
    refine WC.seq ?_
    refine WC.region ?_
    refine WL.quiet (Qt.move rfl) rfl rfl ?_
    refine WL.quiet (Qt.lenS Tryd.underlying28 rfl) rfl rfl ?_
    refine WL.quiet (Qt.move rfl) rfl rfl ?_
    refine WL.nil ?_
    refine WX.next ?_
    refine WC.block ?_
    refine WC.loop (fun w0 : Nat => [(1, .slice B ys.length d), (2, .func (.func 7) #[] #[]), (6, .bool false), (15, .slice A xs.length c), (16, .int .i64 ((xs.length : Nat) : Int)), (17, .int .i64 ((w0 : Nat) : Int))]) (fun w0 => [rd kTree A c xs, rd kTree B d ys]) (fun w0 => w0 ≤ xs.length ∧ xs.take w0 = ys.take w0) (fun w0 => xs.length - w0) 0 ⟨Nat.zero_le _, rfl⟩ ⟨rfl, rfl, rfl, rfl, rfl, rfl, trivial⟩ (.use 0 rfl (fun _ h => h) (.use 1 rfl (fun _ h => h) (.nil))) ?_
    rintro k ⟨hk, hkk⟩
    try dsimp only at hk hkk
    show WC _ _ _ _ _ _ [(1, .slice B ys.length d), (2, .func (.func 7) #[] #[]), (6, .bool false), (15, .slice A xs.length c), (16, .int .i64 ((xs.length : Nat) : Int)), (17, .int .i64 ((k : Nat) : Int))] [rd kTree A c xs, rd kTree B d ys]
    refine WC.seq ?_
    refine WC.region ?_
    refine WL.quiet (Qt.lss rfl rfl) rfl rfl ?_
    refine WL.nil ?_
    refine WX.next ?_
    refine WC.seq ?_
    refine WC.condD rfl (fun hc_2 => ?_) (fun hc_2 => ?_)
    ·
      refine WC.skip ?_
      refine WX.next ?_
      refine WC.seq ?_
      refine WC.block ?_
      refine WC.seq ?_
      refine WC.region ?_
      refine WL.quiet (Qt.move rfl) rfl rfl ?_
      have hj_1 : k < xs.length := by omega
      refine WL.learn 0 rfl (rd_at k hj_1 (vTree _)) ?_
      rintro ⟨p_1, ⟨A_1, c_1⟩⟩ hA_1
      refine WL.quiet (Qt.indexAddrE k hA_1 Tryd.underlying28 ti30 rfl rfl (by first | assumption | omega)) rfl rfl ?_
      refine WL.quiet (Qt.loadCA (p := p_1.add (k * 3)) (o := 0) 0 rfl ta30 ti30 rfl rfl) rfl rfl ?_
      refine WL.loud (.nil) (Ld.alloc ti30 rfl) trivial rfl ?_
      rintro _ _ ⟨b_1, rfl, rfl⟩
      refine WL.quiet (Qt.assign rfl) rfl rfl ?_
      refine WL.loud (.take 0 rfl (.nil)) (Ld.store ti30 rfl rfl rfl rfl rfl rfl) trivial rfl ?_
      rintro _ _ rfl
      refine WL.nil ?_
      refine WX.next ?_
      refine WC.seq ?_
      refine WC.region ?_
      refine WL.quiet (Qt.move rfl) rfl rfl ?_
      refine WL.quiet (Qt.move rfl) rfl rfl ?_
      have hj_2 : k < ys.length := by omega
      refine WL.learn 4 rfl (rd_at k hj_2 (vTree _)) ?_
      rintro ⟨p_2, ⟨A_2, c_2⟩⟩ hA_2
      refine WL.quiet (Qt.indexAddrE k hA_2 Tryd.underlying28 ti30 rfl rfl (by first | assumption | omega)) rfl rfl ?_
      refine WL.quiet (Qt.loadCA (p := p_2.add (k * 3)) (o := 0) 0 rfl ta30 ti30 rfl rfl) rfl rfl ?_
      refine WL.loud (.nil) (Ld.alloc ti30 rfl) trivial rfl ?_
      rintro _ _ ⟨b_2, rfl, rfl⟩
      refine WL.loud (.take 0 rfl (.nil)) (Ld.store ti30 rfl rfl rfl rfl rfl rfl) trivial rfl ?_
      rintro _ _ rfl
      refine WL.nil ?_
      refine WX.next ?_
      refine WC.seq ?_
      refine WC.region ?_
      refine WL.quiet (Qt.move rfl) rfl rfl ?_
      refine WL.quiet (Qt.loadBA 3 rfl ta30 ti30 rfl rfl) rfl rfl ?_
      refine WL.quiet (Qt.loadBA 0 rfl ta30 ti30 rfl rfl) rfl rfl ?_
      refine WL.call (.use 5 rfl (fun _ h => h) (.use 2 rfl (fun _ h => h) (.nil))) (Cl.val cb7 rfl rfl) (heq k _ _ _ _ _ _) trivial rfl ?_
      rintro _ _ ⟨rfl, rfl⟩
      refine WL.quiet (Qt.not rfl) rfl rfl ?_
      refine WL.nil ?_
      refine WX.next ?_
      refine WC.cond rfl (fun hc_3 => ?_) (fun hc_3 => ?_)
      ·
        refine WC.seq ?_
        refine WC.region ?_
        refine WL.quiet (Qt.assign rfl) rfl rfl ?_
        refine WL.nil ?_
        refine WX.next ?_
        refine WC.ret ?_
        refine WX.block_ret ?_
        refine WX.pass_ret ?_
        refine WX.pass_ret ?_
        refine WX.block_ret ?_
        refine WX.pass_ret ?_
        refine WX.ret1 (.nil) rfl rfl ?_
        exact ⟨by rw [same_not]; exact not_of_get (by omega) (by omega) (fun h => by simp [h, same_self] at hc_3), rfl⟩
      ·
        refine WC.skip ?_
        refine WX.block_end ?_
        refine WX.next ?_
        refine WC.region ?_
        refine WL.quiet (Qt.add rfl rfl (by omega)) rfl rfl ?_
        refine WL.quiet (Qt.move rfl) rfl rfl ?_
        refine WL.nil ?_
        exact WX.back (k + 1) ⟨by omega, take_succ_eq hkk (by omega) (by omega) ((same_iff _ _).1 (by simpa using hc_3))⟩ (by first | omega | (dsimp only; omega) | (simp; omega)) ⟨rfl, rfl, rfl, rfl, rfl, rfl, trivial⟩ (.use 6 rfl (fun _ h => h) (.use 7 rfl (fun _ h => h) (.nil)))
    ·
      refine WC.exit ?_
      refine WX.pass_exit ?_
      refine WX.pass_exit ?_
      refine WX.block_exit ?_
      refine WX.next ?_
      refine WC.seq ?_
      refine WC.region ?_
      refine WL.quiet (Qt.assign rfl) rfl rfl ?_
      refine WL.nil ?_
      refine WX.next ?_
      refine WC.ret ?_
      refine WX.ret1 (.nil) rfl rfl ?_
      exact ⟨by rw [(same_iff xs ys).2]; exact take_all_eq hkk (by omega) (by omega), rfl⟩

end Go.Proofs.YtkhmbhdlfpalkaaDoor.Sep

/- A walk, printed by gen.py out of hints. -/
namespace Go.Proofs.YtkhmbhdlfpalkaaDoor.Sep
open Go
variable {μ : Prop}
theorem equalW_ih (m : Nat) : ∀ (a b : PT) (A B : Option Addr) (c d : Nat), SizeOf.sizeOf a < m → Spec μ Tryd.prog 7 #[.agg [.int .i64 a.kind, .int .i64 a.n, .slice A a.kids.length c].toArray, .agg [.int .i64 b.kind, .int .i64 b.n, .slice B b.kids.length d].toArray] [rd kTree A c a.kids, rd kTree B d b.kids] fun v Δ => v = .bool (same a b) ∧ Δ = [] := by
  induction m with
  | zero => exact fun a b A B c d h => absurd h (Nat.not_lt_zero _)
  | succ m ih =>
  intro a b A B c d hsz 
  refine Spec.of_body (n := 24) Tryd.func7 rfl rfl rfl fun w0 S0 O0 => ?_
  show WC _ _ _ _ _ _ [(0, .agg [.int .i64 a.kind, .int .i64 a.n, .slice A a.kids.length c].toArray), (1, .agg [.int .i64 b.kind, .int .i64 b.n, .slice B b.kids.length d].toArray)] [rd kTree A c a.kids, rd kTree B d b.kids]
  refine WC.seq ?_
  refine WC.region ?_
  refine WL.loud (.nil) (Ld.box rfl rfl) trivial rfl ?_
  rintro _ _ ⟨b_1, rfl, rfl⟩
  refine WL.loud (.nil) (Ld.box rfl rfl) trivial rfl ?_
  rintro _ _ ⟨b_2, rfl, rfl⟩
  refine WL.quiet (Qt.assign rfl) rfl rfl ?_
  refine WL.nil ?_
  refine WX.next ?_
  refine WC.cut (fun _ : Unit => [(4, .bool (decide ((((a.kind : Int) = b.kind) ∧ ((a.n : Int) = b.n)) ∧ (same a.kids b.kids = true))))]) (fun _ => [blk b_2 30 [.int .i64 b.kind, .int .i64 b.n, .slice B b.kids.length d], blk b_1 30 [.int .i64 a.kind, .int .i64 a.n, .slice A a.kids.length c], rd kTree A c a.kids, rd kTree B d b.kids]) (fun _ => True) ?_ ?_
  ·
    refine WC.region ?_
    refine WL.quiet (Qt.fieldAddrB tf30_0 rfl) rfl rfl ?_
    refine WL.quiet (Qt.loadB 1 rfl ta3 rfl rfl) rfl rfl ?_
    refine WL.quiet (Qt.fieldAddrB tf30_0 rfl) rfl rfl ?_
    refine WL.quiet (Qt.loadB 0 rfl ta3 rfl rfl) rfl rfl ?_
    refine WL.quiet (Qt.eql rfl rfl) rfl rfl ?_
    refine WL.quiet (Qt.move rfl) rfl rfl ?_
    refine WL.splitD 10 rfl rfl (fun hg_1 => ?_) (fun hg_1 => ?_)
    ·
      refine WL.quietG 5 true rfl 10 rfl rfl (Qt.fieldAddrB tf30_1 rfl) rfl ?_
      refine WL.quietG 5 true rfl 10 rfl rfl (Qt.loadB 1 rfl ta3 rfl rfl) rfl ?_
      refine WL.quietG 5 true rfl 10 rfl rfl (Qt.fieldAddrB tf30_1 rfl) rfl ?_
      refine WL.quietG 5 true rfl 10 rfl rfl (Qt.loadB 0 rfl ta3 rfl rfl) rfl ?_
      refine WL.quietG 5 true rfl 10 rfl rfl (Qt.eql rfl rfl) rfl ?_
      refine WL.quiet (Qt.pickT rfl rfl) rfl rfl ?_
      refine WL.quiet (Qt.move rfl) rfl rfl ?_
      refine WL.splitD 17 rfl rfl (fun hg_2 => ?_) (fun hg_2 => ?_)
      ·
        refine WL.quietG 12 true rfl 17 rfl rfl (Qt.fieldAddrB tf30_2 rfl) rfl ?_
        refine WL.quietG 12 true rfl 17 rfl rfl (Qt.loadB 1 rfl ta28 rfl rfl) rfl ?_
        refine WL.quietG 12 true rfl 17 rfl rfl (Qt.fieldAddrB tf30_2 rfl) rfl ?_
        refine WL.quietG 12 true rfl 17 rfl rfl (Qt.loadB 0 rfl ta28 rfl rfl) rfl ?_
        refine WL.call (.use 2 rfl (fun _ h => h) (.use 3 rfl (fun _ h => h) (.nil))) (Cl.func cb16 rfl) (equalFuncW a.kids b.kids _ _ _ _ (fun k h1 h2 A B c d => ih _ _ _ _ _ _ (by have := kid_size a k h1; omega))) ⟨17, rfl, rfl⟩ rfl ?_
        rintro _ _ ⟨rfl, rfl⟩
        refine WL.quiet (Qt.pickT rfl rfl) rfl rfl ?_
        refine WL.quiet (Qt.assign rfl) rfl rfl ?_
        refine WL.nil ?_
        exact WX.cut () trivial ⟨(by rw [show decide ((((a.kind : Int) = b.kind) ∧ ((a.n : Int) = b.n)) ∧ (same a.kids b.kids = true)) = same a.kids b.kids from by first | (simp [hg_1, hg_2]; done) | exact decide_eq_decide.2 (by omega) | exact decide_eq_true (by omega) | exact decide_eq_false (by omega) | (simp [hg_1, hg_2] <;> omega)]; rfl), trivial⟩ (.take 0 rfl (.take 0 rfl (.use 0 rfl (fun _ h => h) (.use 1 rfl (fun _ h => h) (.nil)))))
      ·
        refine WL.skipG 12 true false rfl 17 rfl rfl rfl rfl ?_
        refine WL.skipG 12 true false rfl 17 rfl rfl rfl rfl ?_
        refine WL.skipG 12 true false rfl 17 rfl rfl rfl rfl ?_
        refine WL.skipG 12 true false rfl 17 rfl rfl rfl rfl ?_
        refine WL.skipG 12 true false rfl 17 rfl rfl rfl rfl ?_
        refine WL.quiet (Qt.pickF rfl rfl) rfl rfl ?_
        refine WL.quiet (Qt.assign rfl) rfl rfl ?_
        refine WL.nil ?_
        exact WX.cut () trivial ⟨(by rw [show decide ((((a.kind : Int) = b.kind) ∧ ((a.n : Int) = b.n)) ∧ (same a.kids b.kids = true)) = false from by first | (simp [hg_1, hg_2]; done) | exact decide_eq_decide.2 (by omega) | exact decide_eq_true (by omega) | exact decide_eq_false (by omega) | (simp [hg_1, hg_2] <;> omega)]; rfl), trivial⟩ (.take 0 rfl (.take 0 rfl (.use 0 rfl (fun _ h => h) (.use 1 rfl (fun _ h => h) (.nil)))))
    ·
      refine WL.skipG 5 true false rfl 10 rfl rfl rfl rfl ?_
      refine WL.skipG 5 true false rfl 10 rfl rfl rfl rfl ?_
      refine WL.skipG 5 true false rfl 10 rfl rfl rfl rfl ?_
      refine WL.skipG 5 true false rfl 10 rfl rfl rfl rfl ?_
      refine WL.skipG 5 true false rfl 10 rfl rfl rfl rfl ?_
      refine WL.quiet (Qt.pickF rfl rfl) rfl rfl ?_
      refine WL.quiet (Qt.move rfl) rfl rfl ?_
      refine WL.skipG 12 true false rfl 17 rfl rfl rfl rfl ?_
      refine WL.skipG 12 true false rfl 17 rfl rfl rfl rfl ?_
      refine WL.skipG 12 true false rfl 17 rfl rfl rfl rfl ?_
      refine WL.skipG 12 true false rfl 17 rfl rfl rfl rfl ?_
      refine WL.skipG 12 true false rfl 17 rfl rfl rfl rfl ?_
      refine WL.quiet (Qt.pickF rfl rfl) rfl rfl ?_
      refine WL.quiet (Qt.assign rfl) rfl rfl ?_
      refine WL.nil ?_
      exact WX.cut () trivial ⟨(by rw [show decide ((((a.kind : Int) = b.kind) ∧ ((a.n : Int) = b.n)) ∧ (same a.kids b.kids = true)) = false from by first | (simp [hg_1]; done) | exact decide_eq_decide.2 (by omega) | exact decide_eq_true (by omega) | exact decide_eq_false (by omega) | (simp [hg_1] <;> omega)]; rfl), trivial⟩ (.take 0 rfl (.take 0 rfl (.use 0 rfl (fun _ h => h) (.use 1 rfl (fun _ h => h) (.nil)))))
  ·
    intro _ _
    show WC _ _ _ _ _ _ [(4, .bool (decide ((((a.kind : Int) = b.kind) ∧ ((a.n : Int) = b.n)) ∧ (same a.kids b.kids = true))))] [blk b_2 30 [.int .i64 b.kind, .int .i64 b.n, .slice B b.kids.length d], blk b_1 30 [.int .i64 a.kind, .int .i64 a.n, .slice A a.kids.length c], rd kTree A c a.kids, rd kTree B d b.kids]
    refine WC.ret ?_
    refine WX.ret1 (.nil) rfl rfl ?_
    refine ⟨congrArg Value.bool (Bool.eq_iff_iff.2 ?_), rfl⟩
    simp only [decide_eq_true_eq, same_iff]
    exact ⟨fun h => PT.ext h.1.1 h.1.2 h.2, fun h => by subst h; exact ⟨⟨rfl, rfl⟩, rfl⟩⟩
theorem equalW (a b : PT) (A B : Option Addr) (c d : Nat)  : Spec μ Tryd.prog 7 #[.agg [.int .i64 a.kind, .int .i64 a.n, .slice A a.kids.length c].toArray, .agg [.int .i64 b.kind, .int .i64 b.n, .slice B b.kids.length d].toArray] [rd kTree A c a.kids, rd kTree B d b.kids] fun v Δ => v = .bool (same a b) ∧ Δ = [] := equalW_ih _ a b A B c d (Nat.lt_succ_self _) 

end Go.Proofs.YtkhmbhdlfpalkaaDoor.Sep

/- A walk, printed by gen.py out of hints. -/
namespace Go.Proofs.YtkhmbhdlfpalkaaDoor.Sep
open Go
variable {μ : Prop}
theorem stableW (cs : List Contact) (lb jp : ByteArray) (A B : Option Addr) (c nB d : Nat)  : Spec False Tryd.prog 3 #[.agg [.string lb, .slice A cs.length c, .slice B nB d, .string jp].toArray] [rd kContact A c cs, cellsAt (⟨0, 0, none⟩ : Addr) [.int .u8 0, .int .u8 0, .int .u8 91, .int .u8 93, .int .u8 123, .int .u8 125]] fun v Δ => v = .bool true ∧ Δ = [] := by
  refine Spec.of_body (n := 75) Tryd.func3 rfl rfl rfl fun w0 S0 O0 => ?_
  show WC _ _ _ _ _ _ [(0, .agg [.string lb, .slice A cs.length c, .slice B nB d, .string jp].toArray)] [rd kContact A c cs, cellsAt (⟨0, 0, none⟩ : Addr) [.int .u8 0, .int .u8 0, .int .u8 91, .int .u8 93, .int .u8 123, .int .u8 125]]
  refine WC.learn (Z := Unit) (Δ := fun _ => []) (φ := fun _ => cs.length ≤ c ∧ c ≤ 9223372036854775807) 0 rfl (fun S w h => ⟨(), rd_bounds h, nofacts⟩) ?_
  rintro _ ⟨hb_1, hb_2⟩
  refine WC.seq ?_
  refine WC.region ?_
  refine WL.loud (.nil) (Ld.box rfl rfl) trivial rfl ?_
  rintro _ _ ⟨b_1, rfl, rfl⟩
  refine WL.quiet (Qt.assign rfl) rfl rfl ?_
  refine WL.nil ?_
  refine WX.next ?_
  refine WC.seq ?_
  refine WC.seq ?_
  refine WC.region ?_
  refine WL.quiet (Qt.loadBA 0 rfl ta25 ti25 rfl rfl) rfl rfl ?_
  refine WL.call (.use 1 rfl (fun _ h => h) (.nil)) (Cl.func cb4 rfl) (tooLargeRungW cs _ _ _ _ _ _ _) trivial rfl ?_
  rintro _ _ ⟨x_1, rfl, rfl, hx_1⟩
  refine WL.quiet (Qt.gtr rfl rfl) rfl rfl ?_
  refine WL.quiet (Qt.move rfl) rfl rfl ?_
  refine WL.splitD 12 rfl rfl (fun hg_1 => ?_) (fun hg_1 => ?_)
  ·
    refine WL.skipG 3 false true rfl 12 rfl rfl rfl rfl ?_
    refine WL.skipG 3 false true rfl 12 rfl rfl rfl rfl ?_
    refine WL.skipG 3 false true rfl 12 rfl rfl rfl rfl ?_
    refine WL.skipG 3 false true rfl 12 rfl rfl rfl rfl ?_
    refine WL.quiet (Qt.pickT rfl rfl) rfl rfl ?_
    refine WL.nil ?_
    refine WX.next ?_
    refine WC.yes rfl ?_
    refine WC.seq ?_
    refine WC.region ?_
    refine WL.call (.use 2 rfl (fun _ h => h) (.nil)) (Cl.func cb5 rfl) (aliveW) trivial rfl ?_
    rintro _ _ ⟨rfl, rfl⟩
    refine WL.quiet (Qt.assign rfl) rfl rfl ?_
    refine WL.nil ?_
    refine WX.next ?_
    refine WC.ret ?_
    refine WX.pass_ret ?_
    refine WX.ret1 (.nil) rfl rfl ?_
    exact ⟨rfl, rfl⟩
  ·
    refine WL.quietG 3 false rfl 12 rfl rfl (Qt.fieldAddrB tf25_1 rfl) rfl ?_
    refine WL.quietG 3 false rfl 12 rfl rfl (Qt.loadB 0 rfl ta22 rfl rfl) rfl ?_
    refine WL.quietG 3 false rfl 12 rfl rfl (Qt.lenS Tryd.underlying22 rfl) rfl ?_
    refine WL.quietG 3 false rfl 12 rfl rfl (Qt.gtr rfl rfl) rfl ?_
    refine WL.quiet (Qt.pickF rfl rfl) rfl rfl ?_
    refine WL.nil ?_
    refine WX.next ?_
    refine WC.condD rfl (fun hc_1 => ?_) (fun hc_1 => ?_)
    ·
      refine WC.seq ?_
      refine WC.region ?_
      refine WL.call (.use 2 rfl (fun _ h => h) (.nil)) (Cl.func cb5 rfl) (aliveW) trivial rfl ?_
      rintro _ _ ⟨rfl, rfl⟩
      refine WL.quiet (Qt.assign rfl) rfl rfl ?_
      refine WL.nil ?_
      refine WX.next ?_
      refine WC.ret ?_
      refine WX.pass_ret ?_
      refine WX.ret1 (.nil) rfl rfl ?_
      exact ⟨rfl, rfl⟩
    ·
      refine WC.skip ?_
      refine WX.next ?_
      refine WC.seq ?_
      refine WC.region ?_
      refine WL.quiet (Qt.loadBA 0 rfl ta25 ti25 rfl rfl) rfl rfl ?_
      refine WL.call (.use 1 rfl (fun _ h => h) (.nil)) (Cl.func cb6 rfl) (reduceW cs _ _ _ _ _ _ _ (by omega)) trivial rfl ?_
      rintro _ _ ⟨e_1, u_1, A_1, c_1, rfl, rfl, hred_1⟩
      refine WL.quiet (Qt.move rfl) rfl rfl ?_
      refine WL.quiet (Qt.extract rfl rfl) rfl rfl ?_
      refine WL.quiet (Qt.extract rfl rfl) rfl rfl ?_
      refine WL.loud (.nil) (Ld.alloc ti30 rfl) trivial rfl ?_
      rintro _ _ ⟨b_2, rfl, rfl⟩
      refine WL.loud (.take 0 rfl (.nil)) (Ld.store ti30 rfl rfl rfl rfl rfl rfl) trivial rfl ?_
      rintro _ _ rfl
      refine WL.quiet (Qt.assign rfl) rfl rfl ?_
      refine WL.nil ?_
      refine WX.next ?_
      refine WC.seq ?_
      refine WC.seq ?_
      refine WC.region ?_
      refine WL.quiet (Qt.move rfl) rfl rfl ?_
      refine WL.quiet (Qt.neq rfl rfl) rfl rfl ?_
      refine WL.nil ?_
      refine WX.next ?_
      refine WC.condD rfl (fun hc_2 => ?_) (fun hc_2 => ?_)
      ·
        refine WC.seq ?_
        have hs0 : same u_1 (PT.mk 0 0 []) = true := (same_iff _ _).2 (red_none hred_1 (by omega))
        refine WC.turn (.nil) (nil_row (e := kTree) (t := 30)) ?_
        rintro _ rfl
        refine WC.turn (.take 0 rfl (.nil)) (freeze_row) ?_
        rintro _ rfl
        refine WC.region ?_
        refine WL.call (.use 5 rfl (fun _ h => h) (.nil)) (Cl.func cb5 rfl) (aliveW) trivial rfl ?_
        rintro _ _ ⟨rfl, rfl⟩
        refine WL.quiet (Qt.move rfl) rfl rfl ?_
        refine WL.quietG 1 true rfl 27 rfl rfl (Qt.loadBA 1 rfl ta30 ti30 rfl rfl) rfl ?_
        refine WL.quietG 1 true rfl 27 rfl rfl (Qt.build tp30 ti30 rfl rfl rfl) rfl ?_
        refine WL.call (.use 2 rfl (fun _ h => h) (.use 0 rfl (fun _ h => h) (.nil))) (Cl.func cb7 rfl) (equalW u_1 (PT.mk 0 0 []) _ _ _ _) ⟨27, rfl, rfl⟩ rfl ?_
        rintro _ _ ⟨rfl, rfl⟩
        rw [hs0]
        refine WL.quiet (Qt.pickT rfl rfl) rfl rfl ?_
        refine WL.quiet (Qt.assign rfl) rfl rfl ?_
        refine WL.nil ?_
        refine WX.next ?_
        refine WC.ret ?_
        refine WX.pass_ret ?_
        refine WX.ret1 (.nil) rfl rfl ?_
        exact ⟨rfl, rfl⟩
      ·
        refine WC.skip ?_
        refine WX.next ?_
        refine WC.seq ?_
        obtain ⟨hw, hro⟩ := red_some hred_1 (by omega)
        obtain ⟨hv1, hv2, hv3⟩ := red_vld hw hro
        refine WC.region ?_
        refine WL.quiet (Qt.loadBA 0 rfl ta30 ti30 rfl rfl) rfl rfl ?_
        refine WL.quiet (Qt.fieldAddrB tf25_1 rfl) rfl rfl ?_
        refine WL.quiet (Qt.loadB 2 rfl ta22 rfl rfl) rfl rfl ?_
        refine WL.call (.use 1 rfl (fun _ h => h) (.use 3 rfl (fun _ h => h) (.nil))) (Cl.func cb8 rfl) (expandW u_1 cs _ _ _ _ hv1 hv2 (by omega)) trivial rfl ?_
        rintro _ _ ⟨A_2, c_2, rfl, rfl⟩
        refine WL.quiet (Qt.move rfl) rfl rfl ?_
        refine WL.quiet (Qt.extract rfl rfl) rfl rfl ?_
        refine WL.quiet (Qt.extract rfl rfl) rfl rfl ?_
        refine WL.loud (.nil) (Ld.alloc ti25 rfl) trivial rfl ?_
        rintro _ _ ⟨b_3, rfl, rfl⟩
        refine WL.loud (.take 0 rfl (.nil)) (Ld.store ti25 rfl rfl rfl rfl rfl rfl) trivial rfl ?_
        rintro _ _ rfl
        refine WL.quiet (Qt.assign rfl) rfl rfl ?_
        refine WL.nil ?_
        refine WX.next ?_
        refine WC.seq ?_
        refine WC.region ?_
        refine WL.quiet (Qt.loadBA 0 rfl ta25 ti25 rfl rfl) rfl rfl ?_
        refine WL.call (.use 1 rfl (fun _ h => h) (.nil)) (Cl.func cb6 rfl) (reduceW ((layT u_1 sL sR (0, cs)).2) _ _ _ _ _ _ _ (by rw [layT_len]; dsimp only; omega)) trivial rfl ?_
        rintro _ _ ⟨e_2, u_2, A_3, c_3, rfl, rfl, hred_2⟩
        refine WL.quiet (Qt.move rfl) rfl rfl ?_
        refine WL.quiet (Qt.extract rfl rfl) rfl rfl ?_
        refine WL.quiet (Qt.extract rfl rfl) rfl rfl ?_
        refine WL.loud (.nil) (Ld.alloc ti30 rfl) trivial rfl ?_
        rintro _ _ ⟨b_4, rfl, rfl⟩
        refine WL.loud (.take 0 rfl (.nil)) (Ld.store ti30 rfl rfl rfl rfl rfl rfl) trivial rfl ?_
        rintro _ _ rfl
        refine WL.quiet (Qt.assign rfl) rfl rfl ?_
        refine WL.nil ?_
        refine WX.next ?_
        refine WC.seq ?_
        obtain ⟨he2, hu2⟩ := law_red hv1 hv2 (by omega) hred_2
        have hs1 : same u_1 u_2 = true := (same_iff _ _).2 (by rw [hu2, hv3])
        refine WC.region ?_
        refine WL.call (.use 8 rfl (fun _ h => h) (.nil)) (Cl.func cb5 rfl) (aliveW) trivial rfl ?_
        rintro _ _ ⟨rfl, rfl⟩
        refine WL.quiet (Qt.move rfl) rfl rfl ?_
        refine WL.quietG 1 true rfl 45 rfl rfl (Qt.move rfl) rfl ?_
        refine WL.quietG 1 true rfl 45 rfl rfl (Qt.to (Qt.eql rfl rfl) (congrArg Value.bool (decide_eq_true rfl))) rfl ?_
        refine WL.quiet (Qt.pickT rfl rfl) rfl rfl ?_
        refine WL.quiet (Qt.move rfl) rfl rfl ?_
        refine WL.quietG 5 true rfl 49 rfl rfl (Qt.move rfl) rfl ?_
        refine WL.quietG 5 true rfl 49 rfl rfl (Qt.to (Qt.eql rfl rfl) (congrArg Value.bool (decide_eq_true he2))) rfl ?_
        refine WL.quiet (Qt.pickT rfl rfl) rfl rfl ?_
        refine WL.quiet (Qt.move rfl) rfl rfl ?_
        refine WL.quietG 9 true rfl 53 rfl rfl (Qt.loadBA 4 rfl ta30 ti30 rfl rfl) rfl ?_
        refine WL.quietG 9 true rfl 53 rfl rfl (Qt.loadBA 0 rfl ta30 ti30 rfl rfl) rfl ?_
        refine WL.call (.use 5 rfl (fun _ h => h) (.use 1 rfl (fun _ h => h) (.nil))) (Cl.func cb7 rfl) (equalW u_1 u_2 _ _ _ _) ⟨53, rfl, rfl⟩ rfl ?_
        rintro _ _ ⟨rfl, rfl⟩
        rw [hs1]
        refine WL.quiet (Qt.pickT rfl rfl) rfl rfl ?_
        refine WL.quiet (Qt.move rfl) rfl rfl ?_
        refine WL.quietG 14 true rfl 58 rfl rfl (Qt.loadBA 4 rfl ta30 ti30 rfl rfl) rfl ?_
        refine WL.quietG 14 true rfl 58 rfl rfl (Qt.fieldAddrB tf25_1 rfl) rfl ?_
        refine WL.quietG 14 true rfl 58 rfl rfl (Qt.loadB 6 rfl ta22 rfl rfl) rfl ?_
        refine WL.quietG 14 true rfl 58 rfl rfl (Qt.lenS Tryd.underlying22 rfl) rfl ?_
        refine WL.call (.use 5 rfl (fun _ h => h) (.nil)) (Cl.func cb9 rfl) (treeCheckW u_1 ((cs.length : Nat) : Int) _ _) ⟨58, rfl, rfl⟩ rfl ?_
        rintro _ _ ⟨e_3, rfl, rfl, hck_1⟩
        refine WL.quietG 14 true rfl 58 rfl rfl (Qt.to (Qt.eql rfl rfl) (congrArg Value.bool (decide_eq_true (hck_1.2 ⟨hv1, by omega⟩)))) rfl ?_
        refine WL.quiet (Qt.pickT rfl rfl) rfl rfl ?_
        refine WL.quiet (Qt.move rfl) rfl rfl ?_
        refine WL.quietG 22 true rfl 66 rfl rfl (Qt.fieldAddrB tf25_1 rfl) rfl ?_
        refine WL.quietG 22 true rfl 66 rfl rfl (Qt.loadB 2 rfl ta22 rfl rfl) rfl ?_
        refine WL.quietG 22 true rfl 66 rfl rfl (Qt.lenS Tryd.underlying22 rfl) rfl ?_
        refine WL.quietG 22 true rfl 66 rfl rfl (Qt.fieldAddrB tf25_1 rfl) rfl ?_
        refine WL.quietG 22 true rfl 66 rfl rfl (Qt.loadB 6 rfl ta22 rfl rfl) rfl ?_
        refine WL.quietG 22 true rfl 66 rfl rfl (Qt.lenS Tryd.underlying22 rfl) rfl ?_
        refine WL.quietG 22 true rfl 66 rfl rfl (Qt.to (Qt.eql rfl rfl) (congrArg Value.bool (decide_eq_true (by rw [layT_len])))) rfl ?_
        refine WL.quiet (Qt.pickT rfl rfl) rfl rfl ?_
        refine WL.quiet (Qt.assign rfl) rfl rfl ?_
        refine WL.nil ?_
        refine WX.next ?_
        refine WC.ret ?_
        refine WX.ret1 (.nil) rfl rfl ?_
        exact ⟨rfl, rfl⟩

end Go.Proofs.YtkhmbhdlfpalkaaDoor.Sep
