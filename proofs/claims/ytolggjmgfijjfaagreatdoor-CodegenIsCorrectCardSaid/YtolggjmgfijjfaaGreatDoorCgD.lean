/- Texts of this proof, joined: what is of no program, and the walks of its functions -/
import Derived.Test.YtolggjmgfijjfaaGreatDoorCgC
set_option autoImplicit false
set_option linter.unusedVariables false
set_option linter.unusedSimpArgs false
set_option linter.unusedSectionVars false
set_option maxRecDepth 100000
/- A walk, printed by gen.py out of hints. -/
namespace Go.Proofs.YtolggjmgfijjfaaGreatDoor.Sep
open Go
variable {μ : Prop}
theorem parallelW (xs : List Edge) (b c : Nat) (cur : List Value) (hnd : 2 * nodesE xs ≤ 1000000) : Spec μ Tryz.prog 20 #[.slice (some ⟨b, 0, none⟩) xs.length c] [rowL kEdge 73 b c xs cur] fun v Δ => ∃ ys cur1 r, v = .tuple [.slice (some ⟨b, 0, none⟩) ys.length c, .bool r].toArray ∧ Δ = [rowL kEdge 73 b c ys cur1] ∧ ParStep xs ys r := by
 refine Spec.of_body (n := 49) Tryz.func20 rfl rfl rfl fun w0 S0 O0 => ?_
 show WC _ _ _ _ _ _ [(0, .slice (some ⟨b, 0, none⟩) xs.length c)] [rowL kEdge 73 b c xs cur]
 refine WC.learn (Z := Unit) (Δ := fun _ => []) (φ := fun _ => xs.length ≤ c ∧ c ≤ 9223372036854775807) 0 rfl (fun S w h => ⟨(), rowL_bounds h, nofacts⟩) ?_
 rintro _ ⟨hb_1, hb_2⟩
 refine WC.seq ?_
 refine WC.region ?_
 refine WL.quiet (Qt.assign rfl) rfl rfl ?_
 refine WL.quiet (Qt.assign rfl) rfl rfl ?_
 refine WL.nil ?_
 refine WX.next ?_
 refine WC.seq ?_
 refine WC.seq ?_
 refine WC.region ?_
 refine WL.quiet (Qt.move rfl) rfl rfl ?_
 refine WL.quiet (Qt.lenS Tryz.underlying69 rfl) rfl rfl ?_
 refine WL.quiet (Qt.move rfl) rfl rfl ?_
 refine WL.nil ?_
 refine WX.next ?_
 refine WC.block ?_
 refine WC.loop (fun w0 : Nat => [(0, .slice (some ⟨b, 0, none⟩) xs.length c), (2, .slice none 0 0), (3, .bool false), (7, .slice (some ⟨b, 0, none⟩) xs.length c), (8, .int .i64 ((xs.length : Nat) : Int)), (9, .int .i64 ((w0 : Nat) : Int))]) (fun w0 => [rowL kEdge 73 b c xs cur]) (fun w0 => w0 ≤ xs.length ∧ ∀ (i j : Nat) (hj : j < xs.length) (hij : i < j), i < w0 → ¬ (xs[j].frm = xs[i].frm ∧ xs[j].to = xs[i].to)) (fun w0 => xs.length - w0) 0 ⟨Nat.zero_le _, fun i j _ _ h => absurd h (Nat.not_lt_zero _)⟩ ⟨rfl, rfl, rfl, rfl, rfl, rfl, trivial⟩ (.take 0 rfl (.nil)) ?_
 rintro k ⟨hk, hno⟩
 try dsimp only at hk hno
 show WC _ _ _ _ _ _ [(0, .slice (some ⟨b, 0, none⟩) xs.length c), (2, .slice none 0 0), (3, .bool false), (7, .slice (some ⟨b, 0, none⟩) xs.length c), (8, .int .i64 ((xs.length : Nat) : Int)), (9, .int .i64 ((k : Nat) : Int))] [rowL kEdge 73 b c xs cur]
 refine WC.seq ?_
 refine WC.region ?_
 refine WL.quiet (Qt.lss rfl rfl) rfl rfl ?_
 refine WL.nil ?_
 refine WX.next ?_
 refine WC.seq ?_
 refine WC.condD rfl (fun hc_1 => ?_) (fun hc_1 => ?_)
 ·
  refine WC.skip ?_
  refine WX.next ?_
  refine WC.seq ?_
  refine WC.block ?_
  refine WC.seq ?_
  refine WC.region ?_
  refine WL.quiet (Qt.move rfl) rfl rfl ?_
  have hj_1 : k < xs.length := by omega
  refine WL.learn 0 rfl (rowL_at k hj_1 (vEdge _)) ?_
  rintro ⟨A_1, c_1⟩ hel_1
  refine WL.quiet (Qt.indexAddrB k Tryz.underlying69 ti73 rfl rfl (by first | assumption | omega)) rfl rfl ?_
  refine WL.quiet (Qt.loadRA (j := k) (o := 0) 1 rfl hel_1 ta73 ti73 rfl rfl) rfl rfl ?_
  refine WL.loud (.nil) (Ld.alloc ti73 rfl) trivial rfl ?_
  rintro _ _ ⟨b_1, rfl, rfl⟩
  refine WL.quiet (Qt.assign rfl) rfl rfl ?_
  refine WL.loud (.take 0 rfl (.nil)) (Ld.store ti73 rfl rfl rfl rfl rfl rfl) trivial rfl ?_
  rintro _ _ rfl
  refine WL.nil ?_
  refine WX.next ?_
  refine WC.seq ?_
  refine WC.region ?_
  refine WL.quiet (Qt.move rfl) rfl rfl ?_
  refine WL.quiet (Qt.move rfl) rfl rfl ?_
  refine WL.quiet (Qt.add rfl rfl (by omega)) rfl rfl ?_
  refine WL.quiet (Qt.cutLowX xs (k + 1) Tryz.underlying69 ti73 rfl rfl (by omega) (by omega)) rfl rfl ?_
  refine WL.quiet (Qt.makeFunc (vs := []) rfl rfl) rfl rfl ?_
  refine WL.call (.take 2 rfl (.take 0 rfl (.u 0 rfl (.nil)))) (Cl.func cb41 rfl) (Spec.borrow (e := kEdge) (Γp := [blk b_1 73 [.string (xs[k].frm), .string (xs[k].to), .int .i64 (xs[k].t.kind), .int .i64 (xs[k].t.n), .slice A_1 (xs[k].t.kids.length) c_1]]) (U := [rd kTree A_1 c_1 (xs[k].t.kids)]) (fun F hF => by obtain rfl := List.mem_singleton.1 hF; exact free_blk _ _ _) (fun F hF => by obtain rfl := List.mem_singleton.1 hF; exact (fun _ h => h)) (rd_drop_ok (k + 1)) (indexEdgeW (xs.drop (k + 1)) _ _ 42 [.pointer (some ⟨b_1, 0, none⟩)] (blk b_1 73 [.string (xs[k].frm), .string (xs[k].to), .int .i64 (xs[k].t.kind), .int .i64 (xs[k].t.n), .slice A_1 (xs[k].t.kids.length) c_1]) (rd kTree A_1 c_1 (xs[k].t.kids)) (fun y => decide (y.frm = xs[k].frm ∧ y.to = xs[k].to)) cb42 (fun _ h => h) (fun j hj A2 c2 => Spec.less (.take 0 rfl (.take 0 rfl .nil)) (samePairW ((xs.drop (k + 1))[j]) xs[k] A2 _ c2 _ b_1)))) trivial rfl ?_
  rintro _ _ ⟨rfl, rfl⟩
  refine WL.quiet (Qt.assign rfl) rfl rfl ?_
  refine WL.nil ?_
  refine WX.next ?_
  refine WC.seq ?_
  refine WC.region ?_
  refine WL.quiet (Qt.move rfl) rfl rfl ?_
  refine WL.quiet (Qt.geq rfl rfl) rfl rfl ?_
  refine WL.nil ?_
  refine WX.next ?_
  refine WC.condD rfl (fun hc_2 => ?_) (fun hc_2 => ?_)
  ·
   refine WC.seq ?_
   obtain ⟨m, hm, hme, hmp⟩ := idxF_pos hc_2
   rw [List.length_drop] at hm
   have hkm : k + 1 + m < xs.length := by omega
   rw [hme]
   rw [List.getElem_drop] at hmp
   have hn1 := nodesE_get xs k (by omega)
   have hn2 := nodesE_get xs (k + 1 + m) hkm
   have hj_2 : k + 1 + m < xs.length := by omega
   refine WC.learn 0 rfl (rowL_at (k + 1 + m) hj_2 (vEdge _)) ?_
   rintro ⟨A_2, c_2⟩ hel_2
   refine WC.calm (Calm.then (Calm.inBlock (Calm.then (Calm.then (Calm.inBlock (Calm.then (calm_FQ _ _))))))) fun hC => ?_
   refine WC.draw (Γq := [rd kTree A_2 c_2 (xs[k + 1 + m].t.kids), rowL kEdge 73 b c xs cur, blk b_1 73 [.string (xs[k].frm), .string (xs[k].to), .int .i64 (xs[k].t.kind), .int .i64 (xs[k].t.n), .slice A_1 (xs[k].t.kids.length) c_1], rd kTree A_1 c_1 (xs[k].t.kids)]) [0, 1, 2, 3, 4, 5, 6, 7, 8, 9, 10, 11, 12] mixed ?_
   refine WA.named (.u 0 rfl (.take 1 rfl (.take 1 rfl (.u 1 rfl (.nil))))) fun sl_1 => ?_
   refine WA.tk 0 (by kernel_rfl) rfl hC (Qt.move rfl) trivial rfl sl_1 ?_
   refine WA.tk 1 (by kernel_rfl) rfl hC (Qt.move rfl) trivial rfl sl_1 ?_
   refine WA.tk 2 (by kernel_rfl) rfl hC (Qt.fieldAddrB tf73_1 rfl) trivial rfl sl_1 ?_
   refine WA.tk 3 (by kernel_rfl) rfl hC (Qt.loadBA 2 rfl ta33 ti33 rfl rfl) trivial rfl sl_1 ?_
   refine WA.tk 4 (by kernel_rfl) rfl hC (Qt.move rfl) trivial rfl sl_1 ?_
   refine WA.tk 5 (by kernel_rfl) rfl hC (Qt.move rfl) trivial rfl sl_1 ?_
   refine WA.tk 6 (by kernel_rfl) rfl hC (Qt.add rfl rfl (by omega)) trivial rfl sl_1 ?_
   refine WA.tk 7 (by kernel_rfl) rfl hC (Qt.move rfl) trivial rfl sl_1 ?_
   refine WA.tk 8 (by kernel_rfl) rfl hC (Qt.add rfl rfl (by omega)) trivial rfl sl_1 ?_
   refine WA.tk 9 (by kernel_rfl) rfl hC (Qt.indexAddrB (k + 1 + m) Tryz.underlying69 ti73 rfl rfl (by first | assumption | omega)) trivial rfl sl_1 ?_
   refine WA.tk 10 (by kernel_rfl) rfl hC (Qt.fieldAddrB tf73_1 rfl) trivial rfl sl_1 ?_
   refine WA.tk 11 (by kernel_rfl) rfl hC (Qt.loadRA (j := (k + 1 + m)) (o := 2) 1 rfl hel_2 ta33 ti33 rfl rfl) trivial rfl sl_1 ?_
   refine WA.one 12 (by kernel_rfl) ?_
   refine WO.call rfl (.u 3 rfl (.u 0 rfl (.nil))) (Cl.func cb43 rfl) (joinW 2 (xs[k].t) (xs[k + 1 + m].t) _ _ _ _ (by omega)) trivial rfl (by rintro _ _ ⟨A_3, c_3, rfl, rfl⟩; exact ⟨_, (.u 1 rfl (.take 2 rfl (.take 2 rfl (.u 2 rfl (.nil)))))⟩) ?_
   rintro _ _ ⟨A_3, c_3, rfl, rfl⟩
   refine WA.phase (K' := [0, 1, 2, 3, 4, 5, 6, 7, 8, 9, 10, 11, 12, 13, 14, 15]) (Γq' := [rd kTree A_3 c_3 ((joinT 2 (xs[k].t) (xs[k + 1 + m].t)).kids), rd kTree A_2 c_2 (xs[k + 1 + m].t.kids), blk b_1 73 [.string (xs[k].frm), .string (xs[k].to), .int .i64 (xs[k].t.kind), .int .i64 (xs[k].t.n), .slice A_1 (xs[k].t.kids.length) c_1], rd kTree A_1 c_1 (xs[k].t.kids)]) (by kernel_rfl) ?_
   refine WA.one 13 (by kernel_rfl) ?_
   refine WO.quiet rfl (Qt.indexAddrB k Tryz.underlying69 ti73 rfl rfl (by first | assumption | omega)) trivial rfl (.u 0 rfl (.u 1 rfl (.take 3 rfl (.u 3 rfl (.nil))))) ?_
   refine WA.named (.u 0 rfl (.u 1 rfl (.take 3 rfl (.u 3 rfl (.nil))))) fun sl_2 => ?_
   refine WA.tk 14 (by kernel_rfl) rfl hC (Qt.fieldAddrB tf73_1 rfl) trivial rfl sl_2 ?_
   refine WA.one 15 (by kernel_rfl) ?_
   refine WO.loud rfl (.take 2 rfl (.u 0 rfl (.nil))) (Ld.storeR (j := k) (o := 2) ⟨xs[k].frm, xs[k].to, (joinT 2 (xs[k].t) (xs[k + 1 + m].t))⟩ (by first | assumption | omega | (simp; omega)) hel_1 ti33 rfl rfl rfl rfl rfl rfl (fun S w h => mkEdgeE (h _ (by simp)))) trivial rfl (by rintro _ _ ⟨cur_1, hel_3, hoth_1, rfl⟩; exact ⟨_, (.u 1 rfl (.u 2 rfl (.take 3 rfl (.u 3 rfl (.nil)))))⟩) ?_
   rintro _ _ ⟨cur_1, hel_3, hoth_1, rfl⟩
   refine WA.done (by kernel_rfl) ?_
   refine WX.next ?_
   refine WC.seq ?_
   refine WC.region ?_
   refine WL.quiet (Qt.move rfl) rfl rfl ?_
   refine WL.quiet (Qt.move rfl) rfl rfl ?_
   refine WL.quiet (Qt.add rfl rfl (by omega)) rfl rfl ?_
   refine WL.quiet (Qt.move rfl) rfl rfl ?_
   refine WL.quiet (Qt.add rfl rfl (by omega)) rfl rfl ?_
   refine WL.quiet (Qt.move rfl) rfl rfl ?_
   refine WL.quiet (Qt.add rfl rfl (by omega)) rfl rfl ?_
   refine WL.quiet (Qt.move rfl) rfl rfl ?_
   refine WL.quiet (Qt.add rfl rfl (by omega)) rfl rfl ?_
   refine WL.call (.take 0 rfl (.nil)) (Cl.func cb44 rfl) (deleteEdgeW' (xs.set k ⟨xs[k].frm, xs[k].to, (joinT 2 (xs[k].t) (xs[k + 1 + m].t))⟩) _ _ (k + 1 + m) (k + 2 + m) _ _ (List.length_set ..) (by omega) (by rw [List.length_set]; omega)) trivial rfl ?_
   rintro _ _ ⟨cur_2, rfl, rfl⟩
   refine WL.quiet (Qt.assign rfl) rfl rfl ?_
   refine WL.quiet (Qt.assign rfl) rfl rfl ?_
   refine WL.nil ?_
   refine WX.next ?_
   refine WC.ret ?_
   refine WX.block_ret ?_
   refine WX.pass_ret ?_
   refine WX.pass_ret ?_
   refine WX.block_ret ?_
   refine WX.pass_ret ?_
   refine WX.ret2 (.take 0 rfl (.nil)) rfl rfl rfl ?_
   exact ⟨_, _, true, rfl, rfl, .inr ⟨rfl, k, k + 1 + m, by omega, hkm, of_decide_eq_true hmp, by rw [show k + 2 + m = k + 1 + m + 1 by omega]⟩⟩
  ·
   refine WC.skip ?_
   refine WX.block_end ?_
   refine WX.next ?_
   refine WC.region ?_
   refine WL.quiet (Qt.add rfl rfl (by omega)) rfl rfl ?_
   refine WL.quiet (Qt.move rfl) rfl rfl ?_
   refine WL.nil ?_
   exact WX.back (k + 1) ⟨by omega, fun i j hj hij hik hp => par_none hno (fun j hj h => none_after hc_2 j hj h) i j hj hij hik hp⟩ (by first | omega | (dsimp only; omega) | (simp; omega)) ⟨rfl, rfl, rfl, rfl, rfl, rfl, trivial⟩ (.take 0 rfl (.nil))
 ·
  refine WC.exit ?_
  refine WX.pass_exit ?_
  refine WX.pass_exit ?_
  refine WX.block_exit ?_
  refine WX.next ?_
  refine WC.seq ?_
  refine WC.region ?_
  refine WL.quiet (Qt.move rfl) rfl rfl ?_
  refine WL.quiet (Qt.assign rfl) rfl rfl ?_
  refine WL.quiet (Qt.assign rfl) rfl rfl ?_
  refine WL.nil ?_
  refine WX.next ?_
  refine WC.ret ?_
  refine WX.ret2 (.take 0 rfl (.nil)) rfl rfl rfl ?_
  exact ⟨_, _, false, rfl, rfl, .inl ⟨rfl, rfl, fun i j hj hij => hno i j hj hij (by omega)⟩⟩

end Go.Proofs.YtolggjmgfijjfaaGreatDoor.Sep

/- A walk, printed by gen.py out of hints. -/
namespace Go.Proofs.YtolggjmgfijjfaaGreatDoor.Sep
open Go
variable {μ : Prop}
theorem seriesW (xs : List Edge) (b c : Nat) (cur : List Value) (hnd : 2 * nodesE xs ≤ 1000000) : Spec μ Tryz.prog 21 #[.slice (some ⟨b, 0, none⟩) xs.length c] [rowL kEdge 73 b c xs cur] fun v Δ => ∃ ys cur1 r, v = .tuple [.slice (some ⟨b, 0, none⟩) ys.length c, .bool r].toArray ∧ Δ = [rowL kEdge 73 b c ys cur1] ∧ SerStep xs ys r := by
 refine Spec.of_body (n := 90) Tryz.func21 rfl rfl rfl fun w0 S0 O0 => ?_
 show WC _ _ _ _ _ _ [(0, .slice (some ⟨b, 0, none⟩) xs.length c)] [rowL kEdge 73 b c xs cur]
 refine WC.learn (Z := Unit) (Δ := fun _ => []) (φ := fun _ => xs.length ≤ c ∧ c ≤ 9223372036854775807) 0 rfl (fun S w h => ⟨(), rowL_bounds h, nofacts⟩) ?_
 rintro _ ⟨hb_1, hb_2⟩
 refine WC.seq ?_
 refine WC.region ?_
 refine WL.quiet (Qt.assign rfl) rfl rfl ?_
 refine WL.quiet (Qt.assign rfl) rfl rfl ?_
 refine WL.nil ?_
 refine WX.next ?_
 refine WC.seq ?_
 refine WC.seq ?_
 refine WC.region ?_
 refine WL.quiet (Qt.move rfl) rfl rfl ?_
 refine WL.quiet (Qt.lenS Tryz.underlying69 rfl) rfl rfl ?_
 refine WL.quiet (Qt.move rfl) rfl rfl ?_
 refine WL.nil ?_
 refine WX.next ?_
 refine WC.block ?_
 refine WC.loop (fun w0 : Nat => [(0, .slice (some ⟨b, 0, none⟩) xs.length c), (2, .slice none 0 0), (3, .bool false), (11, .slice (some ⟨b, 0, none⟩) xs.length c), (12, .int .i64 ((xs.length : Nat) : Int)), (13, .int .i64 ((w0 : Nat) : Int))]) (fun w0 => [rowL kEdge 73 b c xs cur]) (fun w0 => w0 ≤ xs.length ∧ ∀ (i : Nat) (hi : i < xs.length), i < w0 → (xs[i].to = sL ∨ xs[i].to = sR) ∨ ¬ (comes xs[i].to xs = 1 ∧ leaves xs[i].to xs = 1)) (fun w0 => xs.length - w0) 0 ⟨Nat.zero_le _, fun i _ h => absurd h (Nat.not_lt_zero _)⟩ ⟨rfl, rfl, rfl, rfl, rfl, rfl, trivial⟩ (.take 0 rfl (.nil)) ?_
 rintro k ⟨hk, hno⟩
 try dsimp only at hk hno
 show WC _ _ _ _ _ _ [(0, .slice (some ⟨b, 0, none⟩) xs.length c), (2, .slice none 0 0), (3, .bool false), (11, .slice (some ⟨b, 0, none⟩) xs.length c), (12, .int .i64 ((xs.length : Nat) : Int)), (13, .int .i64 ((k : Nat) : Int))] [rowL kEdge 73 b c xs cur]
 refine WC.seq ?_
 refine WC.region ?_
 refine WL.quiet (Qt.lss rfl rfl) rfl rfl ?_
 refine WL.nil ?_
 refine WX.next ?_
 refine WC.seq ?_
 refine WC.condD rfl (fun hc_1 => ?_) (fun hc_1 => ?_)
 ·
  refine WC.skip ?_
  refine WX.next ?_
  refine WC.seq ?_
  refine WC.block ?_
  refine WC.seq ?_
  refine WC.region ?_
  refine WL.quiet (Qt.move rfl) rfl rfl ?_
  have hj_1 : k < xs.length := by omega
  refine WL.learn 0 rfl (rowL_at k hj_1 (vEdge _)) ?_
  rintro ⟨A_1, c_1⟩ hel_1
  refine WL.quiet (Qt.indexAddrB k Tryz.underlying69 ti73 rfl rfl (by first | assumption | omega)) rfl rfl ?_
  refine WL.quiet (Qt.loadRA (j := k) (o := 0) 1 rfl hel_1 ta73 ti73 rfl rfl) rfl rfl ?_
  refine WL.loud (.nil) (Ld.alloc ti73 rfl) trivial rfl ?_
  rintro _ _ ⟨b_1, rfl, rfl⟩
  refine WL.quiet (Qt.assign rfl) rfl rfl ?_
  refine WL.loud (.take 0 rfl (.nil)) (Ld.store ti73 rfl rfl rfl rfl rfl rfl) trivial rfl ?_
  rintro _ _ rfl
  refine WL.nil ?_
  refine WX.next ?_
  refine WC.seq ?_
  refine WC.cut (fun _ : Unit => [(0, .slice (some ⟨b, 0, none⟩) xs.length c), (2, .slice none 0 0), (3, .bool false), (11, .slice (some ⟨b, 0, none⟩) xs.length c), (12, .int .i64 ((xs.length : Nat) : Int)), (13, .int .i64 ((k : Nat) : Int)), (14, .bool (decide (((k : Nat) : Int) < ((xs.length : Nat) : Int)))), (15, .int .i64 ((k : Nat) : Int)), (16, .pointer (some ⟨b, k * 5, none⟩)), (17, .agg [.string (xs[k].frm), .string (xs[k].to), .int .i64 (xs[k].t.kind), .int .i64 (xs[k].t.n), .slice A_1 (xs[k].t.kids.length) c_1].toArray), (5, .pointer (some ⟨b_1, 0, none⟩)), (4, .int .i64 ((k : Nat) : Int)), (18, .pointer (some ⟨b_1, 0, none⟩)), (19, .pointer (some ⟨b_1, 1, none⟩)), (20, .string (xs[k].to)), (21, .bool (decide ((xs[k].to) = (⟨#[76]⟩ : ByteArray)))), (22, .bool (decide ((xs[k].to) = (⟨#[76]⟩ : ByteArray)))), (27, .bool (decide (((xs[k].to) = (⟨#[76]⟩ : ByteArray)) ∨ ((xs[k].to) = (⟨#[82]⟩ : ByteArray)))))]) (fun _ => [blk b_1 73 [.string (xs[k].frm), .string (xs[k].to), .int .i64 (xs[k].t.kind), .int .i64 (xs[k].t.n), .slice A_1 (xs[k].t.kids.length) c_1], rd kTree A_1 c_1 (xs[k].t.kids), rowL kEdge 73 b c xs cur]) (fun _ => True) ?_ ?_
  ·
   refine WC.region ?_
   refine WL.quiet (Qt.fieldAddrB tf73_0 rfl) rfl rfl ?_
   refine WL.quiet (Qt.fieldAddrB tf71_1 rfl) rfl rfl ?_
   refine WL.quiet (Qt.loadB 0 rfl ta9 rfl rfl) rfl rfl ?_
   refine WL.quiet (Qt.seql rfl rfl) rfl rfl ?_
   refine WL.quiet (Qt.move rfl) rfl rfl ?_
   refine WL.splitD 22 rfl rfl (fun hg_1 => ?_) (fun hg_1 => ?_)
   ·
    refine WL.skipG 4 false true rfl 22 rfl rfl rfl rfl ?_
    refine WL.skipG 4 false true rfl 22 rfl rfl rfl rfl ?_
    refine WL.skipG 4 false true rfl 22 rfl rfl rfl rfl ?_
    refine WL.skipG 4 false true rfl 22 rfl rfl rfl rfl ?_
    refine WL.quiet (Qt.pickT rfl rfl) rfl rfl ?_
    refine WL.nil ?_
    exact WX.cut () trivial ⟨rfl, rfl, rfl, rfl, rfl, rfl, rfl, rfl, rfl, rfl, rfl, rfl, rfl, rfl, rfl, rfl, (by rw [show decide ((xs[k].to) = (⟨#[76]⟩ : ByteArray)) = true from by first | (simp [hg_1]; done) | exact decide_eq_decide.2 (by omega) | exact decide_eq_true (by omega) | exact decide_eq_false (by omega) | (simp [hg_1] <;> omega)]; rfl), (by rw [show decide (((xs[k].to) = (⟨#[76]⟩ : ByteArray)) ∨ ((xs[k].to) = (⟨#[82]⟩ : ByteArray))) = true from by first | (simp [hg_1]; done) | exact decide_eq_decide.2 (by omega) | exact decide_eq_true (by omega) | exact decide_eq_false (by omega) | (simp [hg_1] <;> omega)]; rfl), trivial⟩ (.take 0 rfl (.u 0 rfl (.take 1 rfl (.nil))))
   ·
    refine WL.quietG 4 false rfl 22 rfl rfl (Qt.fieldAddrB tf73_0 rfl) rfl ?_
    refine WL.quietG 4 false rfl 22 rfl rfl (Qt.fieldAddrB tf71_1 rfl) rfl ?_
    refine WL.quietG 4 false rfl 22 rfl rfl (Qt.loadB 0 rfl ta9 rfl rfl) rfl ?_
    refine WL.quietG 4 false rfl 22 rfl rfl (Qt.seql rfl rfl) rfl ?_
    refine WL.quiet (Qt.pickF rfl rfl) rfl rfl ?_
    refine WL.nil ?_
    exact WX.cut () trivial ⟨rfl, rfl, rfl, rfl, rfl, rfl, rfl, rfl, rfl, rfl, rfl, rfl, rfl, rfl, rfl, rfl, (by rw [show decide ((xs[k].to) = (⟨#[76]⟩ : ByteArray)) = false from by first | (simp [hg_1]; done) | exact decide_eq_decide.2 (by omega) | exact decide_eq_true (by omega) | exact decide_eq_false (by omega) | (simp [hg_1] <;> omega)]; rfl), (by rw [show decide (((xs[k].to) = (⟨#[76]⟩ : ByteArray)) ∨ ((xs[k].to) = (⟨#[82]⟩ : ByteArray))) = (decide ((xs[k].to) = (⟨#[82]⟩ : ByteArray))) from by first | (simp [hg_1]; done) | exact decide_eq_decide.2 (by omega) | exact decide_eq_true (by omega) | exact decide_eq_false (by omega) | (simp [hg_1] <;> omega)]; rfl), trivial⟩ (.take 0 rfl (.u 0 rfl (.take 1 rfl (.nil))))
  ·
   intro _ _
   show WC _ _ _ _ _ _ [(0, .slice (some ⟨b, 0, none⟩) xs.length c), (2, .slice none 0 0), (3, .bool false), (11, .slice (some ⟨b, 0, none⟩) xs.length c), (12, .int .i64 ((xs.length : Nat) : Int)), (13, .int .i64 ((k : Nat) : Int)), (14, .bool (decide (((k : Nat) : Int) < ((xs.length : Nat) : Int)))), (15, .int .i64 ((k : Nat) : Int)), (16, .pointer (some ⟨b, k * 5, none⟩)), (17, .agg [.string (xs[k].frm), .string (xs[k].to), .int .i64 (xs[k].t.kind), .int .i64 (xs[k].t.n), .slice A_1 (xs[k].t.kids.length) c_1].toArray), (5, .pointer (some ⟨b_1, 0, none⟩)), (4, .int .i64 ((k : Nat) : Int)), (18, .pointer (some ⟨b_1, 0, none⟩)), (19, .pointer (some ⟨b_1, 1, none⟩)), (20, .string (xs[k].to)), (21, .bool (decide ((xs[k].to) = (⟨#[76]⟩ : ByteArray)))), (22, .bool (decide ((xs[k].to) = (⟨#[76]⟩ : ByteArray)))), (27, .bool (decide (((xs[k].to) = (⟨#[76]⟩ : ByteArray)) ∨ ((xs[k].to) = (⟨#[82]⟩ : ByteArray)))))] [blk b_1 73 [.string (xs[k].frm), .string (xs[k].to), .int .i64 (xs[k].t.kind), .int .i64 (xs[k].t.n), .slice A_1 (xs[k].t.kids.length) c_1], rd kTree A_1 c_1 (xs[k].t.kids), rowL kEdge 73 b c xs cur]
   refine WC.condD rfl (fun hc_2 => ?_) (fun hc_2 => ?_)
   ·
    refine WC.exit ?_
    refine WX.pass_exit ?_
    refine WX.block_exit ?_
    refine WX.next ?_
    refine WC.region ?_
    refine WL.quiet (Qt.add rfl rfl (by omega)) rfl rfl ?_
    refine WL.quiet (Qt.move rfl) rfl rfl ?_
    refine WL.nil ?_
    exact WX.back (k + 1) ⟨by omega, ser_none hno (by omega) (by first | exact .inl hc_2 | exact .inr (fun h => hc_2 (ser_eq hcome hleave (by omega) h)))⟩ (by first | omega | (dsimp only; omega) | (simp; omega)) ⟨rfl, rfl, rfl, rfl, rfl, rfl, trivial⟩ (.take 2 rfl (.nil))
   ·
    refine WC.skip ?_
    refine WX.next ?_
    refine WC.seq ?_
    refine WC.region ?_
    refine WL.quiet (Qt.assign rfl) rfl rfl ?_
    refine WL.quiet (Qt.assign rfl) rfl rfl ?_
    refine WL.quiet (Qt.assign rfl) rfl rfl ?_
    refine WL.nil ?_
    refine WX.next ?_
    refine WC.seq ?_
    refine WC.seq ?_
    refine WC.region ?_
    refine WL.quiet (Qt.move rfl) rfl rfl ?_
    refine WL.quiet (Qt.lenS Tryz.underlying69 rfl) rfl rfl ?_
    refine WL.quiet (Qt.move rfl) rfl rfl ?_
    refine WL.nil ?_
    refine WX.next ?_
    refine WC.block ?_
    refine WC.loop (fun w0 : Nat × Nat × Nat × Nat => [(0, .slice (some ⟨b, 0, none⟩) xs.length c), (2, .slice none 0 0), (3, .bool false), (11, .slice (some ⟨b, 0, none⟩) xs.length c), (12, .int .i64 ((xs.length : Nat) : Int)), (13, .int .i64 ((k : Nat) : Int)), (14, .bool (decide (((k : Nat) : Int) < ((xs.length : Nat) : Int)))), (15, .int .i64 ((k : Nat) : Int)), (16, .pointer (some ⟨b, k * 5, none⟩)), (17, .agg [.string (xs[k].frm), .string (xs[k].to), .int .i64 (xs[k].t.kind), .int .i64 (xs[k].t.n), .slice A_1 (xs[k].t.kids.length) c_1].toArray), (5, .pointer (some ⟨b_1, 0, none⟩)), (4, .int .i64 ((k : Nat) : Int)), (18, .pointer (some ⟨b_1, 0, none⟩)), (19, .pointer (some ⟨b_1, 1, none⟩)), (20, .string (xs[k].to)), (21, .bool (decide ((xs[k].to) = (⟨#[76]⟩ : ByteArray)))), (22, .bool (decide ((xs[k].to) = (⟨#[76]⟩ : ByteArray)))), (27, .bool (decide (((xs[k].to) = (⟨#[76]⟩ : ByteArray)) ∨ ((xs[k].to) = (⟨#[82]⟩ : ByteArray))))), (6, .int .i64 ((w0.2.2.2 : Nat) : Int)), (7, .int .i64 ((w0.2.1 : Nat) : Int)), (8, .int .i64 ((w0.2.2.1 : Nat) : Int)), (28, .slice (some ⟨b, 0, none⟩) xs.length c), (29, .int .i64 ((xs.length : Nat) : Int)), (30, .int .i64 ((w0.1 : Nat) : Int))]) (fun w0 => [blk b_1 73 [.string (xs[k].frm), .string (xs[k].to), .int .i64 (xs[k].t.kind), .int .i64 (xs[k].t.n), .slice A_1 (xs[k].t.kids.length) c_1], rd kTree A_1 c_1 (xs[k].t.kids), rowL kEdge 73 b c xs cur]) (fun w0 => w0.1 ≤ xs.length ∧ w0.2.1 ≤ w0.1 ∧ w0.2.2.1 ≤ w0.1 ∧ w0.2.1 = comes xs[k].to (xs.take w0.1) ∧ w0.2.2.1 = leaves xs[k].to (xs.take w0.1) ∧ (0 < w0.2.2.1 → ∃ h : w0.2.2.2 < xs.length, xs[w0.2.2.2].frm = xs[k].to)) (fun w0 => xs.length - w0.1) (0, 0, 0, 0) ⟨Nat.zero_le _, Nat.le_refl _, Nat.le_refl _, by simp [comes], by simp [leaves], fun h => absurd h (Nat.not_lt_zero _)⟩ ⟨rfl, rfl, rfl, rfl, rfl, rfl, rfl, rfl, rfl, rfl, rfl, rfl, rfl, rfl, rfl, rfl, rfl, rfl, rfl, rfl, rfl, rfl, rfl, rfl, trivial⟩ (.take 0 rfl (.u 0 rfl (.take 1 rfl (.nil)))) ?_
    rintro ⟨q, come, leave, on⟩ ⟨hq, hcq, hlq, hcome, hleave, hon⟩
    try dsimp only at hq hcq hlq hcome hleave hon
    show WC _ _ _ _ _ _ [(0, .slice (some ⟨b, 0, none⟩) xs.length c), (2, .slice none 0 0), (3, .bool false), (11, .slice (some ⟨b, 0, none⟩) xs.length c), (12, .int .i64 ((xs.length : Nat) : Int)), (13, .int .i64 ((k : Nat) : Int)), (14, .bool (decide (((k : Nat) : Int) < ((xs.length : Nat) : Int)))), (15, .int .i64 ((k : Nat) : Int)), (16, .pointer (some ⟨b, k * 5, none⟩)), (17, .agg [.string (xs[k].frm), .string (xs[k].to), .int .i64 (xs[k].t.kind), .int .i64 (xs[k].t.n), .slice A_1 (xs[k].t.kids.length) c_1].toArray), (5, .pointer (some ⟨b_1, 0, none⟩)), (4, .int .i64 ((k : Nat) : Int)), (18, .pointer (some ⟨b_1, 0, none⟩)), (19, .pointer (some ⟨b_1, 1, none⟩)), (20, .string (xs[k].to)), (21, .bool (decide ((xs[k].to) = (⟨#[76]⟩ : ByteArray)))), (22, .bool (decide ((xs[k].to) = (⟨#[76]⟩ : ByteArray)))), (27, .bool (decide (((xs[k].to) = (⟨#[76]⟩ : ByteArray)) ∨ ((xs[k].to) = (⟨#[82]⟩ : ByteArray))))), (6, .int .i64 ((on : Nat) : Int)), (7, .int .i64 ((come : Nat) : Int)), (8, .int .i64 ((leave : Nat) : Int)), (28, .slice (some ⟨b, 0, none⟩) xs.length c), (29, .int .i64 ((xs.length : Nat) : Int)), (30, .int .i64 ((q : Nat) : Int))] [blk b_1 73 [.string (xs[k].frm), .string (xs[k].to), .int .i64 (xs[k].t.kind), .int .i64 (xs[k].t.n), .slice A_1 (xs[k].t.kids.length) c_1], rd kTree A_1 c_1 (xs[k].t.kids), rowL kEdge 73 b c xs cur]
    refine WC.seq ?_
    refine WC.region ?_
    refine WL.quiet (Qt.lss rfl rfl) rfl rfl ?_
    refine WL.nil ?_
    refine WX.next ?_
    refine WC.seq ?_
    refine WC.condD rfl (fun hc_3 => ?_) (fun hc_3 => ?_)
    ·
     refine WC.skip ?_
     refine WX.next ?_
     refine WC.seq ?_
     refine WC.block ?_
     refine WC.seq ?_
     refine WC.region ?_
     refine WL.quiet (Qt.move rfl) rfl rfl ?_
     have hj_2 : q < xs.length := by omega
     refine WL.learn 2 rfl (rowL_at q hj_2 (vEdge _)) ?_
     rintro ⟨A_2, c_2⟩ hel_2
     refine WL.quiet (Qt.indexAddrB q Tryz.underlying69 ti73 rfl rfl (by first | assumption | omega)) rfl rfl ?_
     refine WL.quiet (Qt.loadRA (j := q) (o := 0) 3 rfl hel_2 ta73 ti73 rfl rfl) rfl rfl ?_
     refine WL.loud (.nil) (Ld.alloc ti73 rfl) trivial rfl ?_
     rintro _ _ ⟨b_2, rfl, rfl⟩
     refine WL.quiet (Qt.assign rfl) rfl rfl ?_
     refine WL.loud (.take 0 rfl (.nil)) (Ld.store ti73 rfl rfl rfl rfl rfl rfl) trivial rfl ?_
     rintro _ _ rfl
     refine WL.nil ?_
     refine WX.next ?_
     refine WC.seq ?_
     refine WC.seq ?_
     refine WC.region ?_
     refine WL.quiet (Qt.fieldAddrB tf73_0 rfl) rfl rfl ?_
     refine WL.quiet (Qt.fieldAddrB tf71_1 rfl) rfl rfl ?_
     refine WL.quiet (Qt.loadB 0 rfl ta9 rfl rfl) rfl rfl ?_
     refine WL.quiet (Qt.fieldAddrB tf73_0 rfl) rfl rfl ?_
     refine WL.quiet (Qt.fieldAddrB tf71_1 rfl) rfl rfl ?_
     refine WL.quiet (Qt.loadB 2 rfl ta9 rfl rfl) rfl rfl ?_
     refine WL.quiet (Qt.seql rfl rfl) rfl rfl ?_
     refine WL.nil ?_
     refine WX.next ?_
     refine WC.condD rfl (fun hc_4 => ?_) (fun hc_4 => ?_)
     ·
      refine WC.region ?_
      refine WL.quiet (Qt.move rfl) rfl rfl ?_
      refine WL.quiet (Qt.add rfl rfl (by omega)) rfl rfl ?_
      refine WL.quiet (Qt.assign rfl) rfl rfl ?_
      refine WL.nil ?_
      refine WX.next ?_
      refine WC.seq ?_
      refine WC.region ?_
      refine WL.quiet (Qt.fieldAddrB tf73_0 rfl) rfl rfl ?_
      refine WL.quiet (Qt.fieldAddrB tf71_0 rfl) rfl rfl ?_
      refine WL.quiet (Qt.loadB 0 rfl ta9 rfl rfl) rfl rfl ?_
      refine WL.quiet (Qt.fieldAddrB tf73_0 rfl) rfl rfl ?_
      refine WL.quiet (Qt.fieldAddrB tf71_1 rfl) rfl rfl ?_
      refine WL.quiet (Qt.loadB 2 rfl ta9 rfl rfl) rfl rfl ?_
      refine WL.quiet (Qt.seql rfl rfl) rfl rfl ?_
      refine WL.nil ?_
      refine WX.next ?_
      refine WC.condD rfl (fun hc_5 => ?_) (fun hc_5 => ?_)
      ·
       refine WC.seq ?_
       refine WC.region ?_
       refine WL.quiet (Qt.move rfl) rfl rfl ?_
       refine WL.quiet (Qt.add rfl rfl (by omega)) rfl rfl ?_
       refine WL.quiet (Qt.assign rfl) rfl rfl ?_
       refine WL.nil ?_
       refine WX.next ?_
       refine WC.region ?_
       refine WL.quiet (Qt.move rfl) rfl rfl ?_
       refine WL.quiet (Qt.assign rfl) rfl rfl ?_
       refine WL.nil ?_
       refine WX.block_end ?_
       refine WX.next ?_
       refine WC.region ?_
       refine WL.quiet (Qt.add rfl rfl (by omega)) rfl rfl ?_
       refine WL.quiet (Qt.move rfl) rfl rfl ?_
       refine WL.nil ?_
       exact WX.back (q + 1, come + 1, leave + 1, q) ⟨by omega, by dsimp only; omega, by dsimp only; omega, comes_step hcome (by omega) (by first | exact .inl ⟨hc_4, rfl⟩ | exact .inr ⟨hc_4, rfl⟩), leaves_step hleave (by omega) (by first | exact .inl ⟨hc_5, rfl⟩ | exact .inr ⟨hc_5, rfl⟩), by first | exact fun _ => ⟨by omega, hc_5⟩ | exact hon⟩ (by dsimp only; omega) ⟨rfl, rfl, rfl, rfl, rfl, rfl, rfl, rfl, rfl, rfl, rfl, rfl, rfl, rfl, rfl, rfl, rfl, rfl, rfl, rfl, rfl, rfl, rfl, rfl, trivial⟩ (.take 2 rfl (.u 2 rfl (.take 3 rfl (.nil))))
      ·
       refine WC.skip ?_
       refine WX.block_end ?_
       refine WX.next ?_
       refine WC.region ?_
       refine WL.quiet (Qt.add rfl rfl (by omega)) rfl rfl ?_
       refine WL.quiet (Qt.move rfl) rfl rfl ?_
       refine WL.nil ?_
       exact WX.back (q + 1, come + 1, leave, on) ⟨by omega, by dsimp only; omega, by dsimp only; omega, comes_step hcome (by omega) (by first | exact .inl ⟨hc_4, rfl⟩ | exact .inr ⟨hc_4, rfl⟩), leaves_step hleave (by omega) (by first | exact .inl ⟨hc_5, rfl⟩ | exact .inr ⟨hc_5, rfl⟩), by first | exact fun _ => ⟨by omega, hc_5⟩ | exact hon⟩ (by dsimp only; omega) ⟨rfl, rfl, rfl, rfl, rfl, rfl, rfl, rfl, rfl, rfl, rfl, rfl, rfl, rfl, rfl, rfl, rfl, rfl, rfl, rfl, rfl, rfl, rfl, rfl, trivial⟩ (.take 2 rfl (.u 2 rfl (.take 3 rfl (.nil))))
     ·
      refine WC.skip ?_
      refine WX.next ?_
      refine WC.seq ?_
      refine WC.region ?_
      refine WL.quiet (Qt.fieldAddrB tf73_0 rfl) rfl rfl ?_
      refine WL.quiet (Qt.fieldAddrB tf71_0 rfl) rfl rfl ?_
      refine WL.quiet (Qt.loadB 0 rfl ta9 rfl rfl) rfl rfl ?_
      refine WL.quiet (Qt.fieldAddrB tf73_0 rfl) rfl rfl ?_
      refine WL.quiet (Qt.fieldAddrB tf71_1 rfl) rfl rfl ?_
      refine WL.quiet (Qt.loadB 2 rfl ta9 rfl rfl) rfl rfl ?_
      refine WL.quiet (Qt.seql rfl rfl) rfl rfl ?_
      refine WL.nil ?_
      refine WX.next ?_
      refine WC.condD rfl (fun hc_6 => ?_) (fun hc_6 => ?_)
      ·
       refine WC.seq ?_
       refine WC.region ?_
       refine WL.quiet (Qt.move rfl) rfl rfl ?_
       refine WL.quiet (Qt.add rfl rfl (by omega)) rfl rfl ?_
       refine WL.quiet (Qt.assign rfl) rfl rfl ?_
       refine WL.nil ?_
       refine WX.next ?_
       refine WC.region ?_
       refine WL.quiet (Qt.move rfl) rfl rfl ?_
       refine WL.quiet (Qt.assign rfl) rfl rfl ?_
       refine WL.nil ?_
       refine WX.block_end ?_
       refine WX.next ?_
       refine WC.region ?_
       refine WL.quiet (Qt.add rfl rfl (by omega)) rfl rfl ?_
       refine WL.quiet (Qt.move rfl) rfl rfl ?_
       refine WL.nil ?_
       exact WX.back (q + 1, come, leave + 1, q) ⟨by omega, by dsimp only; omega, by dsimp only; omega, comes_step hcome (by omega) (by first | exact .inl ⟨hc_4, rfl⟩ | exact .inr ⟨hc_4, rfl⟩), leaves_step hleave (by omega) (by first | exact .inl ⟨hc_6, rfl⟩ | exact .inr ⟨hc_6, rfl⟩), by first | exact fun _ => ⟨by omega, hc_6⟩ | exact hon⟩ (by dsimp only; omega) ⟨rfl, rfl, rfl, rfl, rfl, rfl, rfl, rfl, rfl, rfl, rfl, rfl, rfl, rfl, rfl, rfl, rfl, rfl, rfl, rfl, rfl, rfl, rfl, rfl, trivial⟩ (.take 2 rfl (.u 2 rfl (.take 3 rfl (.nil))))
      ·
       refine WC.skip ?_
       refine WX.block_end ?_
       refine WX.next ?_
       refine WC.region ?_
       refine WL.quiet (Qt.add rfl rfl (by omega)) rfl rfl ?_
       refine WL.quiet (Qt.move rfl) rfl rfl ?_
       refine WL.nil ?_
       exact WX.back (q + 1, come, leave, on) ⟨by omega, by dsimp only; omega, by dsimp only; omega, comes_step hcome (by omega) (by first | exact .inl ⟨hc_4, rfl⟩ | exact .inr ⟨hc_4, rfl⟩), leaves_step hleave (by omega) (by first | exact .inl ⟨hc_6, rfl⟩ | exact .inr ⟨hc_6, rfl⟩), by first | exact fun _ => ⟨by omega, hc_6⟩ | exact hon⟩ (by dsimp only; omega) ⟨rfl, rfl, rfl, rfl, rfl, rfl, rfl, rfl, rfl, rfl, rfl, rfl, rfl, rfl, rfl, rfl, rfl, rfl, rfl, rfl, rfl, rfl, rfl, rfl, trivial⟩ (.take 2 rfl (.u 2 rfl (.take 3 rfl (.nil))))
    ·
     refine WC.exit ?_
     refine WX.pass_exit ?_
     refine WX.pass_exit ?_
     refine WX.block_exit ?_
     refine WX.next ?_
     refine WC.cut (fun _ : Unit => [(0, .slice (some ⟨b, 0, none⟩) xs.length c), (2, .slice none 0 0), (3, .bool false), (11, .slice (some ⟨b, 0, none⟩) xs.length c), (12, .int .i64 ((xs.length : Nat) : Int)), (13, .int .i64 ((k : Nat) : Int)), (14, .bool (decide (((k : Nat) : Int) < ((xs.length : Nat) : Int)))), (15, .int .i64 ((k : Nat) : Int)), (16, .pointer (some ⟨b, k * 5, none⟩)), (17, .agg [.string (xs[k].frm), .string (xs[k].to), .int .i64 (xs[k].t.kind), .int .i64 (xs[k].t.n), .slice A_1 (xs[k].t.kids.length) c_1].toArray), (5, .pointer (some ⟨b_1, 0, none⟩)), (4, .int .i64 ((k : Nat) : Int)), (18, .pointer (some ⟨b_1, 0, none⟩)), (19, .pointer (some ⟨b_1, 1, none⟩)), (20, .string (xs[k].to)), (21, .bool (decide ((xs[k].to) = (⟨#[76]⟩ : ByteArray)))), (22, .bool (decide ((xs[k].to) = (⟨#[76]⟩ : ByteArray)))), (27, .bool (decide (((xs[k].to) = (⟨#[76]⟩ : ByteArray)) ∨ ((xs[k].to) = (⟨#[82]⟩ : ByteArray))))), (6, .int .i64 ((on : Nat) : Int)), (7, .int .i64 ((come : Nat) : Int)), (8, .int .i64 ((leave : Nat) : Int)), (28, .slice (some ⟨b, 0, none⟩) xs.length c), (29, .int .i64 ((xs.length : Nat) : Int)), (30, .int .i64 ((q : Nat) : Int)), (31, .bool (decide (((q : Nat) : Int) < ((xs.length : Nat) : Int)))), (55, .int .i64 ((come : Nat) : Int)), (56, .bool (decide (((come : Nat) : Int) = 1))), (57, .bool (decide (((come : Nat) : Int) = 1))), (60, .bool (decide ((((come : Nat) : Int) = 1) ∧ (((leave : Nat) : Int) = 1))))]) (fun _ => [blk b_1 73 [.string (xs[k].frm), .string (xs[k].to), .int .i64 (xs[k].t.kind), .int .i64 (xs[k].t.n), .slice A_1 (xs[k].t.kids.length) c_1], rd kTree A_1 c_1 (xs[k].t.kids), rowL kEdge 73 b c xs cur]) (fun _ => True) ?_ ?_
     ·
      refine WC.region ?_
      refine WL.quiet (Qt.move rfl) rfl rfl ?_
      refine WL.quiet (Qt.eql rfl rfl) rfl rfl ?_
      refine WL.quiet (Qt.move rfl) rfl rfl ?_
      refine WL.splitD 57 rfl rfl (fun hg_2 => ?_) (fun hg_2 => ?_)
      ·
       refine WL.quietG 2 true rfl 57 rfl rfl (Qt.move rfl) rfl ?_
       refine WL.quietG 2 true rfl 57 rfl rfl (Qt.eql rfl rfl) rfl ?_
       refine WL.quiet (Qt.pickT rfl rfl) rfl rfl ?_
       refine WL.nil ?_
       exact WX.cut () trivial ⟨rfl, rfl, rfl, rfl, rfl, rfl, rfl, rfl, rfl, rfl, rfl, rfl, rfl, rfl, rfl, rfl, rfl, rfl, rfl, rfl, rfl, rfl, rfl, rfl, rfl, rfl, rfl, (by rw [show decide (((come : Nat) : Int) = 1) = true from by first | (simp [hg_2]; done) | exact decide_eq_decide.2 (by omega) | exact decide_eq_true (by omega) | exact decide_eq_false (by omega) | (simp [hg_2] <;> omega)]; rfl), (by rw [show decide ((((come : Nat) : Int) = 1) ∧ (((leave : Nat) : Int) = 1)) = (decide (((leave : Nat) : Int) = 1)) from by first | (simp [hg_2]; done) | exact decide_eq_decide.2 (by omega) | exact decide_eq_true (by omega) | exact decide_eq_false (by omega) | (simp [hg_2] <;> omega)]; rfl), trivial⟩ (.take 0 rfl (.u 0 rfl (.take 1 rfl (.nil))))
      ·
       refine WL.skipG 2 true false rfl 57 rfl rfl rfl rfl ?_
       refine WL.skipG 2 true false rfl 57 rfl rfl rfl rfl ?_
       refine WL.quiet (Qt.pickF rfl rfl) rfl rfl ?_
       refine WL.nil ?_
       exact WX.cut () trivial ⟨rfl, rfl, rfl, rfl, rfl, rfl, rfl, rfl, rfl, rfl, rfl, rfl, rfl, rfl, rfl, rfl, rfl, rfl, rfl, rfl, rfl, rfl, rfl, rfl, rfl, rfl, rfl, (by rw [show decide (((come : Nat) : Int) = 1) = false from by first | (simp [hg_2]; done) | exact decide_eq_decide.2 (by omega) | exact decide_eq_true (by omega) | exact decide_eq_false (by omega) | (simp [hg_2] <;> omega)]; rfl), (by rw [show decide ((((come : Nat) : Int) = 1) ∧ (((leave : Nat) : Int) = 1)) = false from by first | (simp [hg_2]; done) | exact decide_eq_decide.2 (by omega) | exact decide_eq_true (by omega) | exact decide_eq_false (by omega) | (simp [hg_2] <;> omega)]; rfl), trivial⟩ (.take 0 rfl (.u 0 rfl (.take 1 rfl (.nil))))
     ·
      intro _ _
      show WC _ _ _ _ _ _ [(0, .slice (some ⟨b, 0, none⟩) xs.length c), (2, .slice none 0 0), (3, .bool false), (11, .slice (some ⟨b, 0, none⟩) xs.length c), (12, .int .i64 ((xs.length : Nat) : Int)), (13, .int .i64 ((k : Nat) : Int)), (14, .bool (decide (((k : Nat) : Int) < ((xs.length : Nat) : Int)))), (15, .int .i64 ((k : Nat) : Int)), (16, .pointer (some ⟨b, k * 5, none⟩)), (17, .agg [.string (xs[k].frm), .string (xs[k].to), .int .i64 (xs[k].t.kind), .int .i64 (xs[k].t.n), .slice A_1 (xs[k].t.kids.length) c_1].toArray), (5, .pointer (some ⟨b_1, 0, none⟩)), (4, .int .i64 ((k : Nat) : Int)), (18, .pointer (some ⟨b_1, 0, none⟩)), (19, .pointer (some ⟨b_1, 1, none⟩)), (20, .string (xs[k].to)), (21, .bool (decide ((xs[k].to) = (⟨#[76]⟩ : ByteArray)))), (22, .bool (decide ((xs[k].to) = (⟨#[76]⟩ : ByteArray)))), (27, .bool (decide (((xs[k].to) = (⟨#[76]⟩ : ByteArray)) ∨ ((xs[k].to) = (⟨#[82]⟩ : ByteArray))))), (6, .int .i64 ((on : Nat) : Int)), (7, .int .i64 ((come : Nat) : Int)), (8, .int .i64 ((leave : Nat) : Int)), (28, .slice (some ⟨b, 0, none⟩) xs.length c), (29, .int .i64 ((xs.length : Nat) : Int)), (30, .int .i64 ((q : Nat) : Int)), (31, .bool (decide (((q : Nat) : Int) < ((xs.length : Nat) : Int)))), (55, .int .i64 ((come : Nat) : Int)), (56, .bool (decide (((come : Nat) : Int) = 1))), (57, .bool (decide (((come : Nat) : Int) = 1))), (60, .bool (decide ((((come : Nat) : Int) = 1) ∧ (((leave : Nat) : Int) = 1))))] [blk b_1 73 [.string (xs[k].frm), .string (xs[k].to), .int .i64 (xs[k].t.kind), .int .i64 (xs[k].t.n), .slice A_1 (xs[k].t.kids.length) c_1], rd kTree A_1 c_1 (xs[k].t.kids), rowL kEdge 73 b c xs cur]
      refine WC.condD rfl (fun hc_7 => ?_) (fun hc_7 => ?_)
      ·
       refine WC.seq ?_
       obtain ⟨hlon, hfrm⟩ := hon (by omega)
       have hn1 := nodesE_get xs k (by omega)
       have hn2 := nodesE_get xs on hlon
       have hcl := ser_eq2 hcome hleave (by omega) hc_7
       have hj_3 : on < xs.length := by omega
       refine WC.learn 2 rfl (rowL_at on hj_3 (vEdge _)) ?_
       rintro ⟨A_3, c_3⟩ hel_3
       refine WC.calm (Calm.then (Calm.inBlock (Calm.then (Calm.then (Calm.inBlock (Calm.then (calm_FQ _ _))))))) fun hC => ?_
       refine WC.draw (Γq := [rd kTree A_3 c_3 (xs[on].t.kids), blk b_1 73 [.string (xs[k].frm), .string (xs[k].to), .int .i64 (xs[k].t.kind), .int .i64 (xs[k].t.n), .slice A_1 (xs[k].t.kids.length) c_1], rd kTree A_1 c_1 (xs[k].t.kids), rowL kEdge 73 b c xs cur]) [0, 1, 2, 3, 4, 5, 6, 7, 8, 9, 10, 11, 12, 13, 14, 15, 16, 17, 18, 19, 20] mixed ?_
       refine WA.named (.u 0 rfl (.take 1 rfl (.u 1 rfl (.take 2 rfl (.nil))))) fun sl_1 => ?_
       refine WA.tk 0 (by kernel_rfl) rfl hC (Qt.move rfl) trivial rfl sl_1 ?_
       refine WA.tk 1 (by kernel_rfl) rfl hC (Qt.move rfl) trivial rfl sl_1 ?_
       refine WA.tk 2 (by kernel_rfl) rfl hC (Qt.fieldAddrB tf73_0 rfl) trivial rfl sl_1 ?_
       refine WA.tk 3 (by kernel_rfl) rfl hC (Qt.fieldAddrB tf71_0 rfl) trivial rfl sl_1 ?_
       refine WA.tk 4 (by kernel_rfl) rfl hC (Qt.loadB 1 rfl ta9 rfl rfl) trivial rfl sl_1 ?_
       refine WA.tk 5 (by kernel_rfl) rfl hC (Qt.move rfl) trivial rfl sl_1 ?_
       refine WA.tk 6 (by kernel_rfl) rfl hC (Qt.move rfl) trivial rfl sl_1 ?_
       refine WA.tk 7 (by kernel_rfl) rfl hC (Qt.indexAddrB on Tryz.underlying69 ti73 rfl rfl (by first | assumption | omega)) trivial rfl sl_1 ?_
       refine WA.tk 8 (by kernel_rfl) rfl hC (Qt.fieldAddrB tf73_0 rfl) trivial rfl sl_1 ?_
       refine WA.tk 9 (by kernel_rfl) rfl hC (Qt.fieldAddrB tf71_1 rfl) trivial rfl sl_1 ?_
       refine WA.tk 10 (by kernel_rfl) rfl hC (Qt.loadR (j := on) (o := 1) 3 rfl hel_3 ta9 rfl rfl) trivial rfl sl_1 ?_
       refine WA.tk 11 (by kernel_rfl) rfl hC (Qt.build tp71 ti71 rfl rfl rfl) trivial rfl sl_1 ?_
       refine WA.tk 12 (by kernel_rfl) rfl hC (Qt.fieldAddrB tf73_1 rfl) trivial rfl sl_1 ?_
       refine WA.tk 13 (by kernel_rfl) rfl hC (Qt.loadBA 1 rfl ta33 ti33 rfl rfl) trivial rfl sl_1 ?_
       refine WA.tk 14 (by kernel_rfl) rfl hC (Qt.move rfl) trivial rfl sl_1 ?_
       refine WA.tk 15 (by kernel_rfl) rfl hC (Qt.move rfl) trivial rfl sl_1 ?_
       refine WA.tk 16 (by kernel_rfl) rfl hC (Qt.indexAddrB on Tryz.underlying69 ti73 rfl rfl (by first | assumption | omega)) trivial rfl sl_1 ?_
       refine WA.tk 17 (by kernel_rfl) rfl hC (Qt.fieldAddrB tf73_1 rfl) trivial rfl sl_1 ?_
       refine WA.tk 18 (by kernel_rfl) rfl hC (Qt.loadRA (j := on) (o := 2) 3 rfl hel_3 ta33 ti33 rfl rfl) trivial rfl sl_1 ?_
       refine WA.one 19 (by kernel_rfl) ?_
       refine WO.call rfl (.u 2 rfl (.u 0 rfl (.nil))) (Cl.func cb43 rfl) (joinW 1 (xs[k].t) (xs[on].t) _ _ _ _ (by omega)) trivial rfl (by rintro _ _ ⟨A_4, c_4, rfl, rfl⟩; exact ⟨_, (.u 1 rfl (.take 2 rfl (.u 2 rfl (.take 3 rfl (.nil)))))⟩) ?_
       rintro _ _ ⟨A_4, c_4, rfl, rfl⟩
       refine WA.named (.u 1 rfl (.take 2 rfl (.u 2 rfl (.take 3 rfl (.nil))))) fun sl_2 => ?_
       refine WA.tk 20 (by kernel_rfl) rfl hC (Qt.build tp73 ti73 rfl rfl rfl) trivial rfl sl_2 ?_
       refine WA.phase (K' := [0, 1, 2, 3, 4, 5, 6, 7, 8, 9, 10, 11, 12, 13, 14, 15, 16, 17, 18, 19, 20, 21]) (Γq' := [rd kTree A_4 c_4 ((joinT 1 (xs[k].t) (xs[on].t)).kids), rd kTree A_3 c_3 (xs[on].t.kids), blk b_1 73 [.string (xs[k].frm), .string (xs[k].to), .int .i64 (xs[k].t.kind), .int .i64 (xs[k].t.n), .slice A_1 (xs[k].t.kids.length) c_1], rd kTree A_1 c_1 (xs[k].t.kids), rowL kEdge 73 b c xs cur]) (by kernel_rfl) ?_
       refine WA.named (.u 0 rfl (.u 1 rfl (.take 2 rfl (.u 2 rfl (.take 3 rfl (.nil)))))) fun sl_3 => ?_
       refine WA.tk 21 (by kernel_rfl) rfl hC (Qt.indexAddrB k Tryz.underlying69 ti73 rfl rfl (by first | assumption | omega)) trivial rfl sl_3 ?_
       refine WA.phase (K' := [0, 1, 2, 3, 4, 5, 6, 7, 8, 9, 10, 11, 12, 13, 14, 15, 16, 17, 18, 19, 20, 21, 22]) (Γq' := [rd kTree A_4 c_4 ((joinT 1 (xs[k].t) (xs[on].t)).kids), rd kTree A_3 c_3 (xs[on].t.kids), blk b_1 73 [.string (xs[k].frm), .string (xs[k].to), .int .i64 (xs[k].t.kind), .int .i64 (xs[k].t.n), .slice A_1 (xs[k].t.kids.length) c_1], rd kTree A_1 c_1 (xs[k].t.kids)]) (by kernel_rfl) ?_
       refine WA.one 22 (by kernel_rfl) ?_
       refine WO.loud rfl (.take 4 rfl (.u 0 rfl (.nil))) (Ld.storeR (j := k) (o := 0) ⟨xs[k].frm, xs[on].to, (joinT 1 (xs[k].t) (xs[on].t))⟩ (by first | assumption | omega | (simp; omega)) hel_1 ti73 rfl rfl rfl rfl rfl rfl (fun S w h => mkEdgeE (h _ (by simp)))) trivial rfl (by rintro _ _ ⟨cur_1, hel_4, hoth_1, rfl⟩; exact ⟨_, (.u 1 rfl (.u 2 rfl (.take 3 rfl (.u 3 rfl (.nil)))))⟩) ?_
       rintro _ _ ⟨cur_1, hel_4, hoth_1, rfl⟩
       refine WA.done (by kernel_rfl) ?_
       refine WX.next ?_
       refine WC.seq ?_
       refine WC.region ?_
       refine WL.quiet (Qt.move rfl) rfl rfl ?_
       refine WL.quiet (Qt.move rfl) rfl rfl ?_
       refine WL.quiet (Qt.move rfl) rfl rfl ?_
       refine WL.quiet (Qt.add rfl rfl (by omega)) rfl rfl ?_
       refine WL.call (.take 0 rfl (.nil)) (Cl.func cb44 rfl) (deleteEdgeW' (xs.set k ⟨xs[k].frm, xs[on].to, (joinT 1 (xs[k].t) (xs[on].t))⟩) _ _ on (on + 1) _ _ (List.length_set ..) (by omega) (by rw [List.length_set]; omega)) trivial rfl ?_
       rintro _ _ ⟨cur_2, rfl, rfl⟩
       refine WL.quiet (Qt.assign rfl) rfl rfl ?_
       refine WL.quiet (Qt.assign rfl) rfl rfl ?_
       refine WL.nil ?_
       refine WX.next ?_
       refine WC.ret ?_
       refine WX.block_ret ?_
       refine WX.pass_ret ?_
       refine WX.pass_ret ?_
       refine WX.block_ret ?_
       refine WX.pass_ret ?_
       refine WX.ret2 (.take 0 rfl (.nil)) rfl rfl rfl ?_
       exact ⟨_, _, true, rfl, rfl, .inr ⟨rfl, k, on, by omega, hlon, fun h => hc_2 (.inl h), fun h => hc_2 (.inr h), hcl.1, hcl.2, hfrm, rfl⟩⟩
      ·
       refine WC.skip ?_
       refine WX.block_end ?_
       refine WX.next ?_
       refine WC.region ?_
       refine WL.quiet (Qt.add rfl rfl (by omega)) rfl rfl ?_
       refine WL.quiet (Qt.move rfl) rfl rfl ?_
       refine WL.nil ?_
       exact WX.back (k + 1) ⟨by omega, ser_none hno (by omega) (by first | exact .inl hc_2 | exact .inr (fun h => hc_7 (ser_eq hcome hleave (by omega) h)))⟩ (by first | omega | (dsimp only; omega) | (simp; omega)) ⟨rfl, rfl, rfl, rfl, rfl, rfl, trivial⟩ (.take 2 rfl (.nil))
 ·
  refine WC.exit ?_
  refine WX.pass_exit ?_
  refine WX.pass_exit ?_
  refine WX.block_exit ?_
  refine WX.next ?_
  refine WC.seq ?_
  refine WC.region ?_
  refine WL.quiet (Qt.move rfl) rfl rfl ?_
  refine WL.quiet (Qt.assign rfl) rfl rfl ?_
  refine WL.quiet (Qt.assign rfl) rfl rfl ?_
  refine WL.nil ?_
  refine WX.next ?_
  refine WC.ret ?_
  refine WX.ret2 (.take 0 rfl (.nil)) rfl rfl rfl ?_
  exact ⟨_, _, false, rfl, rfl, .inl ⟨rfl, rfl, fun i hi => hno i hi (by omega)⟩⟩

end Go.Proofs.YtolggjmgfijjfaaGreatDoor.Sep

/- A walk, printed by gen.py out of hints. -/
namespace Go.Proofs.YtolggjmgfijjfaaGreatDoor.Sep
open Go
variable {μ : Prop}
theorem leavesW_ih (m : Nat) : ∀ (t : PT) (A : Option Addr) (c : Nat), SizeOf.sizeOf t < m → (t.leaves.length ≤ 1000000) → Spec μ Tryz.prog 49 #[.agg [.int .i64 t.kind, .int .i64 t.n, .slice A t.kids.length c].toArray] [rd kTree A c t.kids] fun v Δ => ∃ A1 c1, v = .slice A1 t.leaves.length c1 ∧ Δ = [row kInt 3 A1 c1 t.leaves] := by
 induction m with
 | zero => exact fun t A c h => absurd h (Nat.not_lt_zero _)
 | succ m ih =>
 intro t A c hsz hlen
 refine Spec.of_body (n := 29) Tryz.func49 rfl rfl rfl fun w0 S0 O0 => ?_
 show WC _ _ _ _ _ _ [(0, .agg [.int .i64 t.kind, .int .i64 t.n, .slice A t.kids.length c].toArray)] [rd kTree A c t.kids]
 refine WC.learn (Z := Unit) (Δ := fun _ => []) (φ := fun _ => t.kids.length ≤ c ∧ c ≤ 9223372036854775807) 0 rfl (fun S w h => ⟨(), rd_bounds h, nofacts⟩) ?_
 rintro _ ⟨hb_1, hb_2⟩
 refine WC.seq ?_
 refine WC.region ?_
 refine WL.loud (.nil) (Ld.box rfl rfl) trivial rfl ?_
 rintro _ _ ⟨b_1, rfl, rfl⟩
 refine WL.quiet (Qt.assign rfl) rfl rfl ?_
 refine WL.nil ?_
 refine WX.next ?_
 refine WC.seq ?_
 refine WC.seq ?_
 refine WC.region ?_
 refine WL.quiet (Qt.fieldAddrB tf33_0 rfl) rfl rfl ?_
 refine WL.quiet (Qt.loadB 0 rfl ta3 rfl rfl) rfl rfl ?_
 refine WL.nil ?_
 refine WX.next ?_
 refine WC.block ?_
 refine WC.seq ?_
 refine WC.region ?_
 refine WL.quiet (Qt.eql rfl rfl) rfl rfl ?_
 refine WL.quiet (Qt.assign rfl) rfl rfl ?_
 refine WL.nil ?_
 refine WX.next ?_
 refine WC.condD rfl (fun hc_1 => ?_) (fun hc_1 => ?_)
 ·
  refine WC.seq ?_
  refine WC.region ?_
  refine WL.quiet (Qt.fieldAddrB tf33_1 rfl) rfl rfl ?_
  refine WL.quiet (Qt.loadB 0 rfl ta3 rfl rfl) rfl rfl ?_
  refine WL.loud (.nil) (Ld.buildSlice (zs := [.int .i64 0]) Tryz.underlying85 ti3 rfl rfl (by kernel_rfl) rfl rfl) trivial rfl ?_
  rintro _ _ ⟨b_2, rfl, rfl⟩
  refine WL.quiet (Qt.assign rfl) rfl rfl ?_
  refine WL.nil ?_
  refine WX.next ?_
  refine WC.ret ?_
  refine WX.block_ret ?_
  refine WX.pass_ret ?_
  have hl0 := leaves_leaf t (by omega)
  refine WX.turn (.take 0 rfl (.nil)) (blk_row (e := kInt) (U := []) [t.n] (fun F hF => nomatch hF) (fun S w h => Reps.one rfl) (by simp)) ?_
  rintro _ rfl
  refine WX.ret1 (.take 0 rfl (.nil)) rfl rfl ?_
  exact ⟨_, _, by rw [hl0] <;> rfl, by rw [hl0] <;> rfl⟩
 ·
  refine WC.seq ?_
  refine WC.seq ?_
  refine WC.region ?_
  refine WL.quiet (Qt.eql rfl rfl) rfl rfl ?_
  refine WL.quiet (Qt.assign rfl) rfl rfl ?_
  refine WL.nil ?_
  refine WX.next ?_
  refine WC.condD rfl (fun hc_2 => ?_) (fun hc_2 => ?_)
  ·
   refine WC.skip ?_
   refine WX.next ?_
   refine WC.condD rfl (fun hc_3 => ?_) (fun hc_3 => ?_)
   ·
    refine WC.seq ?_
    have hL : t.leaves = leavesL t.kids := leaves_kids t (by omega)
    refine WC.region ?_
    refine WL.quiet (Qt.assign rfl) rfl rfl ?_
    refine WL.nil ?_
    refine WX.next ?_
    refine WC.seq ?_
    refine WC.seq ?_
    refine WC.region ?_
    refine WL.quiet (Qt.fieldAddrB tf33_2 rfl) rfl rfl ?_
    refine WL.quiet (Qt.loadB 0 rfl ta31 rfl rfl) rfl rfl ?_
    refine WL.quiet (Qt.lenS Tryz.underlying31 rfl) rfl rfl ?_
    refine WL.quiet (Qt.move rfl) rfl rfl ?_
    refine WL.nil ?_
    refine WX.next ?_
    refine WC.block ?_
    refine WC.turn (.nil) (nil_row (e := kInt) (t := 3)) ?_
    rintro _ rfl
    refine WC.loop (fun w0 : Nat × (Option Addr) × Nat × (List Int) => [(2, .slice none 0 0), (3, .slice w0.2.1 w0.2.2.2.length w0.2.2.1), (17, .slice A t.kids.length c), (18, .int .i64 ((t.kids.length : Nat) : Int)), (19, .int .i64 ((w0.1 : Nat) : Int))]) (fun w0 => [row kInt 3 w0.2.1 w0.2.2.1 w0.2.2.2, blk b_1 33 [.int .i64 t.kind, .int .i64 t.n, .slice A t.kids.length c], rd kTree A c t.kids]) (fun w0 => w0.1 ≤ t.kids.length ∧ w0.2.2.2 = leavesL (t.kids.take w0.1)) (fun w0 => t.kids.length - w0.1) (0, none, 0, []) ⟨Nat.zero_le _, rfl⟩ ⟨rfl, rfl, rfl, rfl, rfl, trivial⟩ (.take 0 rfl (.take 0 rfl (.u 0 rfl (.nil)))) ?_
    rintro ⟨k, A1, c1, acc⟩ ⟨hk, hacc⟩
    try dsimp only at hk hacc
    show WC _ _ _ _ _ _ [(2, .slice none 0 0), (3, .slice A1 acc.length c1), (17, .slice A t.kids.length c), (18, .int .i64 ((t.kids.length : Nat) : Int)), (19, .int .i64 ((k : Nat) : Int))] [row kInt 3 A1 c1 acc, blk b_1 33 [.int .i64 t.kind, .int .i64 t.n, .slice A t.kids.length c], rd kTree A c t.kids]
    refine WC.seq ?_
    refine WC.region ?_
    refine WL.quiet (Qt.lss rfl rfl) rfl rfl ?_
    refine WL.nil ?_
    refine WX.next ?_
    refine WC.seq ?_
    refine WC.condD rfl (fun hc_4 => ?_) (fun hc_4 => ?_)
    ·
     refine WC.skip ?_
     refine WX.next ?_
     refine WC.seq ?_
     refine WC.block ?_
     refine WC.seq ?_
     refine WC.region ?_
     have hj_1 : k < t.kids.length := by omega
     refine WL.learn 2 rfl (rd_at k hj_1 (vTree _)) ?_
     rintro ⟨p_1, ⟨A_1, c_1⟩⟩ hA_1
     refine WL.quiet (Qt.indexAddrE k hA_1 Tryz.underlying31 ti33 rfl rfl (by first | assumption | omega)) rfl rfl ?_
     refine WL.quiet (Qt.loadCA (p := p_1.add (k * 3)) (o := 0) 0 rfl ta33 ti33 rfl rfl) rfl rfl ?_
     refine WL.loud (.nil) (Ld.alloc ti33 rfl) trivial rfl ?_
     rintro _ _ ⟨b_3, rfl, rfl⟩
     refine WL.loud (.take 0 rfl (.nil)) (Ld.store ti33 rfl rfl rfl rfl rfl rfl) trivial rfl ?_
     rintro _ _ rfl
     refine WL.nil ?_
     refine WX.next ?_
     refine WC.region ?_
     refine WL.quiet (Qt.move rfl) rfl rfl ?_
     refine WL.quiet (Qt.loadBA 0 rfl ta33 ti33 rfl rfl) rfl rfl ?_
     have hkid := leavesL_kid t.kids k (by omega)
     have hacc2 : acc.length = (leavesL (t.kids.take k)).length := by rw [hacc]
     rw [← hL] at hkid
     refine WL.call (.u 2 rfl (.nil)) (Cl.func cb49 rfl) (ih (t.kids[k]) _ _ (by have := kid_size t k (by omega); omega) (by omega)) trivial rfl ?_
     rintro _ _ ⟨A_2, c_2, rfl, rfl⟩
     refine WL.turn (.take 0 rfl (.nil)) (freeze_row) ?_
     rintro _ rfl
     refine WL.loud (.take 4 rfl (.u 0 rfl (.nil))) (Ld.appendRd (e := kInt) (xs := acc) (ys := (t.kids[k].leaves)) Tryz.underlying85 ti3 rfl (by decide) (by decide) rfl rfl (by first | omega | (simp; omega))) trivial rfl ?_
     rintro _ _ ⟨A_3, c_3, rfl, rfl⟩
     refine WL.quiet (Qt.assign rfl) rfl rfl ?_
     refine WL.nil ?_
     refine WX.block_end ?_
     refine WX.next ?_
     refine WC.region ?_
     refine WL.quiet (Qt.add rfl rfl (by omega)) rfl rfl ?_
     refine WL.quiet (Qt.move rfl) rfl rfl ?_
     refine WL.nil ?_
     exact WX.back (k + 1, A_3, c_3, acc ++ t.kids[k].leaves) ⟨by omega, by rw [leavesL_take _ _ (by omega), hacc]⟩ (by first | omega | (dsimp only; omega) | (simp; omega)) ⟨rfl, rfl, rfl, rfl, rfl, trivial⟩ (.take 0 rfl (.take 4 rfl (.u 4 rfl (.nil))))
    ·
     refine WC.exit ?_
     refine WX.pass_exit ?_
     refine WX.pass_exit ?_
     refine WX.block_exit ?_
     refine WX.next ?_
     refine WC.seq ?_
     refine WC.region ?_
     refine WL.quiet (Qt.move rfl) rfl rfl ?_
     refine WL.quiet (Qt.assign rfl) rfl rfl ?_
     refine WL.nil ?_
     refine WX.next ?_
     refine WC.ret ?_
     refine WX.block_ret ?_
     refine WX.pass_ret ?_
     have hlL : acc = t.leaves := by rw [hacc, List.take_of_length_le (by omega), hL]
     subst hlL
     refine WX.ret1 (.take 0 rfl (.nil)) rfl rfl ?_
     exact ⟨_, _, rfl, rfl⟩
   ·
    refine WC.skip ?_
    refine WX.block_end ?_
    refine WX.next ?_
    refine WC.seq ?_
    refine WC.region ?_
    refine WL.quiet (Qt.assign rfl) rfl rfl ?_
    refine WL.nil ?_
    refine WX.next ?_
    refine WC.ret ?_
    have hlN := leaves_none t (by omega) (by omega) (by omega)
    refine WX.turn (.nil) (nil_row (e := kInt) (t := 3)) ?_
    rintro _ rfl
    refine WX.ret1 (.take 0 rfl (.nil)) rfl rfl ?_
    exact ⟨_, _, by rw [hlN] <;> rfl, by rw [hlN] <;> rfl⟩
  ·
   refine WC.region ?_
   refine WL.quiet (Qt.eql rfl rfl) rfl rfl ?_
   refine WL.quiet (Qt.assign rfl) rfl rfl ?_
   refine WL.nil ?_
   refine WX.next ?_
   refine WC.condD rfl (fun hc_5 => ?_) (fun hc_5 => ?_)
   ·
    refine WC.seq ?_
    have hL : t.leaves = leavesL t.kids := leaves_kids t (by omega)
    refine WC.region ?_
    refine WL.quiet (Qt.assign rfl) rfl rfl ?_
    refine WL.nil ?_
    refine WX.next ?_
    refine WC.seq ?_
    refine WC.seq ?_
    refine WC.region ?_
    refine WL.quiet (Qt.fieldAddrB tf33_2 rfl) rfl rfl ?_
    refine WL.quiet (Qt.loadB 0 rfl ta31 rfl rfl) rfl rfl ?_
    refine WL.quiet (Qt.lenS Tryz.underlying31 rfl) rfl rfl ?_
    refine WL.quiet (Qt.move rfl) rfl rfl ?_
    refine WL.nil ?_
    refine WX.next ?_
    refine WC.block ?_
    refine WC.turn (.nil) (nil_row (e := kInt) (t := 3)) ?_
    rintro _ rfl
    refine WC.loop (fun w0 : Nat × (Option Addr) × Nat × (List Int) => [(2, .slice none 0 0), (3, .slice w0.2.1 w0.2.2.2.length w0.2.2.1), (17, .slice A t.kids.length c), (18, .int .i64 ((t.kids.length : Nat) : Int)), (19, .int .i64 ((w0.1 : Nat) : Int))]) (fun w0 => [row kInt 3 w0.2.1 w0.2.2.1 w0.2.2.2, blk b_1 33 [.int .i64 t.kind, .int .i64 t.n, .slice A t.kids.length c], rd kTree A c t.kids]) (fun w0 => w0.1 ≤ t.kids.length ∧ w0.2.2.2 = leavesL (t.kids.take w0.1)) (fun w0 => t.kids.length - w0.1) (0, none, 0, []) ⟨Nat.zero_le _, rfl⟩ ⟨rfl, rfl, rfl, rfl, rfl, trivial⟩ (.take 0 rfl (.take 0 rfl (.u 0 rfl (.nil)))) ?_
    rintro ⟨k, A1, c1, acc⟩ ⟨hk, hacc⟩
    try dsimp only at hk hacc
    show WC _ _ _ _ _ _ [(2, .slice none 0 0), (3, .slice A1 acc.length c1), (17, .slice A t.kids.length c), (18, .int .i64 ((t.kids.length : Nat) : Int)), (19, .int .i64 ((k : Nat) : Int))] [row kInt 3 A1 c1 acc, blk b_1 33 [.int .i64 t.kind, .int .i64 t.n, .slice A t.kids.length c], rd kTree A c t.kids]
    refine WC.seq ?_
    refine WC.region ?_
    refine WL.quiet (Qt.lss rfl rfl) rfl rfl ?_
    refine WL.nil ?_
    refine WX.next ?_
    refine WC.seq ?_
    refine WC.condD rfl (fun hc_6 => ?_) (fun hc_6 => ?_)
    ·
     refine WC.skip ?_
     refine WX.next ?_
     refine WC.seq ?_
     refine WC.block ?_
     refine WC.seq ?_
     refine WC.region ?_
     have hj_2 : k < t.kids.length := by omega
     refine WL.learn 2 rfl (rd_at k hj_2 (vTree _)) ?_
     rintro ⟨p_2, ⟨A_4, c_4⟩⟩ hA_2
     refine WL.quiet (Qt.indexAddrE k hA_2 Tryz.underlying31 ti33 rfl rfl (by first | assumption | omega)) rfl rfl ?_
     refine WL.quiet (Qt.loadCA (p := p_2.add (k * 3)) (o := 0) 0 rfl ta33 ti33 rfl rfl) rfl rfl ?_
     refine WL.loud (.nil) (Ld.alloc ti33 rfl) trivial rfl ?_
     rintro _ _ ⟨b_4, rfl, rfl⟩
     refine WL.loud (.take 0 rfl (.nil)) (Ld.store ti33 rfl rfl rfl rfl rfl rfl) trivial rfl ?_
     rintro _ _ rfl
     refine WL.nil ?_
     refine WX.next ?_
     refine WC.region ?_
     refine WL.quiet (Qt.move rfl) rfl rfl ?_
     refine WL.quiet (Qt.loadBA 0 rfl ta33 ti33 rfl rfl) rfl rfl ?_
     have hkid := leavesL_kid t.kids k (by omega)
     have hacc2 : acc.length = (leavesL (t.kids.take k)).length := by rw [hacc]
     rw [← hL] at hkid
     refine WL.call (.u 2 rfl (.nil)) (Cl.func cb49 rfl) (ih (t.kids[k]) _ _ (by have := kid_size t k (by omega); omega) (by omega)) trivial rfl ?_
     rintro _ _ ⟨A_5, c_5, rfl, rfl⟩
     refine WL.turn (.take 0 rfl (.nil)) (freeze_row) ?_
     rintro _ rfl
     refine WL.loud (.take 4 rfl (.u 0 rfl (.nil))) (Ld.appendRd (e := kInt) (xs := acc) (ys := (t.kids[k].leaves)) Tryz.underlying85 ti3 rfl (by decide) (by decide) rfl rfl (by first | omega | (simp; omega))) trivial rfl ?_
     rintro _ _ ⟨A_6, c_6, rfl, rfl⟩
     refine WL.quiet (Qt.assign rfl) rfl rfl ?_
     refine WL.nil ?_
     refine WX.block_end ?_
     refine WX.next ?_
     refine WC.region ?_
     refine WL.quiet (Qt.add rfl rfl (by omega)) rfl rfl ?_
     refine WL.quiet (Qt.move rfl) rfl rfl ?_
     refine WL.nil ?_
     exact WX.back (k + 1, A_6, c_6, acc ++ t.kids[k].leaves) ⟨by omega, by rw [leavesL_take _ _ (by omega), hacc]⟩ (by first | omega | (dsimp only; omega) | (simp; omega)) ⟨rfl, rfl, rfl, rfl, rfl, trivial⟩ (.take 0 rfl (.take 4 rfl (.u 4 rfl (.nil))))
    ·
     refine WC.exit ?_
     refine WX.pass_exit ?_
     refine WX.pass_exit ?_
     refine WX.block_exit ?_
     refine WX.next ?_
     refine WC.seq ?_
     refine WC.region ?_
     refine WL.quiet (Qt.move rfl) rfl rfl ?_
     refine WL.quiet (Qt.assign rfl) rfl rfl ?_
     refine WL.nil ?_
     refine WX.next ?_
     refine WC.ret ?_
     refine WX.block_ret ?_
     refine WX.pass_ret ?_
     have hlL : acc = t.leaves := by rw [hacc, List.take_of_length_le (by omega), hL]
     subst hlL
     refine WX.ret1 (.take 0 rfl (.nil)) rfl rfl ?_
     exact ⟨_, _, rfl, rfl⟩
   ·
    refine WC.skip ?_
    refine WX.block_end ?_
    refine WX.next ?_
    refine WC.seq ?_
    refine WC.region ?_
    refine WL.quiet (Qt.assign rfl) rfl rfl ?_
    refine WL.nil ?_
    refine WX.next ?_
    refine WC.ret ?_
    have hlN := leaves_none t (by omega) (by omega) (by omega)
    refine WX.turn (.nil) (nil_row (e := kInt) (t := 3)) ?_
    rintro _ rfl
    refine WX.ret1 (.take 0 rfl (.nil)) rfl rfl ?_
    exact ⟨_, _, by rw [hlN] <;> rfl, by rw [hlN] <;> rfl⟩
theorem leavesW (t : PT) (A : Option Addr) (c : Nat) (hlen : t.leaves.length ≤ 1000000) : Spec μ Tryz.prog 49 #[.agg [.int .i64 t.kind, .int .i64 t.n, .slice A t.kids.length c].toArray] [rd kTree A c t.kids] fun v Δ => ∃ A1 c1, v = .slice A1 t.leaves.length c1 ∧ Δ = [row kInt 3 A1 c1 t.leaves] := leavesW_ih _ t A c (Nat.lt_succ_self _) hlen

end Go.Proofs.YtolggjmgfijjfaaGreatDoor.Sep

/- A walk, printed by gen.py out of hints. -/
namespace Go.Proofs.YtolggjmgfijjfaaGreatDoor.Sep
open Go
variable {μ : Prop}
theorem minW (xs : List Int) (A : Option Addr) (c : Nat) (hne : 0 < xs.length) : Spec μ Tryz.prog 48 #[.slice A xs.length c] [rd kInt A c xs] fun v Δ => v = .int .i64 (minL xs) ∧ Δ = [] := by
 refine Spec.of_body (n := 25) Tryz.func48 rfl rfl rfl fun w0 S0 O0 => ?_
 show WC _ _ _ _ _ _ [(0, .slice A xs.length c)] [rd kInt A c xs]
 refine WC.learn (Z := Unit) (Δ := fun _ => []) (φ := fun _ => xs.length ≤ c ∧ c ≤ 9223372036854775807) 0 rfl (fun S w h => ⟨(), rd_bounds h, nofacts⟩) ?_
 rintro _ ⟨hb_1, hb_2⟩
 refine WC.seq ?_
 refine WC.region ?_
 refine WL.quiet (Qt.assign rfl) rfl rfl ?_
 refine WL.nil ?_
 refine WX.next ?_
 refine WC.seq ?_
 refine WC.seq ?_
 refine WC.region ?_
 refine WL.quiet (Qt.move rfl) rfl rfl ?_
 refine WL.quiet (Qt.lenS Tryz.underlying85 rfl) rfl rfl ?_
 refine WL.quiet (Qt.lss rfl rfl) rfl rfl ?_
 refine WL.nil ?_
 refine WX.next ?_
 refine WC.condD rfl (fun hc_1 => ?_) (fun hc_1 => ?_)
 ·
  exact absurd hc_1 (by omega)
 ·
  refine WC.skip ?_
  refine WX.next ?_
  refine WC.seq ?_
  refine WC.region ?_
  refine WL.quiet (Qt.move rfl) rfl rfl ?_
  have hj_1 : 0 < xs.length := by omega
  refine WL.learn 0 rfl (rd_at 0 hj_1 (vInt _)) ?_
  rintro ⟨p_1, ⟨⟩⟩ hA_1
  refine WL.quiet (Qt.indexAddrE 0 hA_1 Tryz.underlying85 ti3 rfl rfl (by first | assumption | omega)) rfl rfl ?_
  refine WL.quiet (Qt.loadC (p := p_1.add (0 * 1)) (o := 0) 0 rfl ta3 rfl rfl) rfl rfl ?_
  refine WL.quiet (Qt.assign rfl) rfl rfl ?_
  refine WL.nil ?_
  refine WX.next ?_
  refine WC.seq ?_
  refine WC.seq ?_
  refine WC.region ?_
  refine WL.quiet (Qt.assign rfl) rfl rfl ?_
  refine WL.nil ?_
  refine WX.next ?_
  refine WC.block ?_
  refine WC.loop (fun w0 : Nat × Int => [(0, .slice A xs.length c), (2, .int .i64 0), (3, .int .i64 w0.2), (4, .int .i64 ((w0.1 : Nat) : Int))]) (fun w0 => [cellsAt (p_1.add (0 * 1)) [.int .i64 (xs[0])], rd kInt A c xs]) (fun w0 => 1 ≤ w0.1 ∧ w0.1 ≤ xs.length ∧ w0.2 = minL (xs.take w0.1)) (fun w0 => xs.length - w0.1) (1, xs[0]) ⟨Nat.le_refl _, by omega, by rw [minL_one xs (by omega)]⟩ ⟨rfl, rfl, rfl, rfl, trivial⟩ (.u 0 rfl (.u 1 rfl (.nil))) ?_
  rintro ⟨k, m⟩ ⟨hk0, hk, hm⟩
  try dsimp only at hk0 hk hm
  show WC _ _ _ _ _ _ [(0, .slice A xs.length c), (2, .int .i64 0), (3, .int .i64 m), (4, .int .i64 ((k : Nat) : Int))] [cellsAt (p_1.add (0 * 1)) [.int .i64 (xs[0])], rd kInt A c xs]
  refine WC.seq ?_
  refine WC.seq ?_
  refine WC.region ?_
  refine WL.quiet (Qt.move rfl) rfl rfl ?_
  refine WL.quiet (Qt.move rfl) rfl rfl ?_
  refine WL.quiet (Qt.lenS Tryz.underlying85 rfl) rfl rfl ?_
  refine WL.quiet (Qt.lss rfl rfl) rfl rfl ?_
  refine WL.nil ?_
  refine WX.next ?_
  refine WC.condD rfl (fun hc_2 => ?_) (fun hc_2 => ?_)
  ·
   refine WC.skip ?_
   refine WX.next ?_
   refine WC.seq ?_
   refine WC.block ?_
   refine WC.region ?_
   refine WL.quiet (Qt.move rfl) rfl rfl ?_
   refine WL.quiet (Qt.move rfl) rfl rfl ?_
   refine WL.quiet (Qt.move rfl) rfl rfl ?_
   have hj_2 : k < xs.length := by omega
   refine WL.learn 1 rfl (rd_at k hj_2 (vInt _)) ?_
   rintro ⟨p_2, ⟨⟩⟩ hA_2
   refine WL.quiet (Qt.indexAddrE k hA_2 Tryz.underlying85 ti3 rfl rfl (by first | assumption | omega)) rfl rfl ?_
   refine WL.quiet (Qt.loadC (p := p_2.add (k * 1)) (o := 0) 0 rfl ta3 rfl rfl) rfl rfl ?_
   refine WL.quiet (Qt.min2 rfl rfl) rfl rfl ?_
   refine WL.quiet (Qt.assign rfl) rfl rfl ?_
   refine WL.nil ?_
   refine WX.block_end ?_
   refine WX.next ?_
   refine WC.region ?_
   refine WL.quiet (Qt.move rfl) rfl rfl ?_
   refine WL.quiet (Qt.add rfl rfl (by omega)) rfl rfl ?_
   refine WL.quiet (Qt.assign rfl) rfl rfl ?_
   refine WL.nil ?_
   exact WX.back (k + 1, if (xs[k]) < m then (xs[k]) else m) ⟨by omega, by omega, by rw [minL_take _ _ hk0 (by omega), ← hm]⟩ (by first | omega | (dsimp only; omega) | (simp; omega)) ⟨rfl, rfl, rfl, rfl, trivial⟩ (.u 1 rfl (.u 2 rfl (.nil)))
  ·
   refine WC.exit ?_
   refine WX.pass_exit ?_
   refine WX.pass_exit ?_
   refine WX.block_exit ?_
   refine WX.next ?_
   refine WC.seq ?_
   refine WC.region ?_
   refine WL.quiet (Qt.move rfl) rfl rfl ?_
   refine WL.quiet (Qt.assign rfl) rfl rfl ?_
   refine WL.nil ?_
   refine WX.next ?_
   refine WC.ret ?_
   refine WX.ret1 (.nil) rfl rfl ?_
   exact ⟨by rw [hm, List.take_of_length_le (by omega)], rfl⟩

end Go.Proofs.YtolggjmgfijjfaaGreatDoor.Sep

/- A walk, printed by gen.py out of hints. -/
namespace Go.Proofs.YtolggjmgfijjfaaGreatDoor.Sep
open Go
variable {μ : Prop}
theorem isNaNW (x : Int)  : Spec μ Tryz.prog 81 #[.int .i64 x] [] fun v Δ => v = .bool false ∧ Δ = [] := by
 refine Spec.of_body (n := 6) Tryz.func81 rfl rfl rfl fun w0 S0 O0 => ?_
 show WC _ _ _ _ _ _ [(0, .int .i64 x)] []
 refine WC.seq ?_
 refine WC.region ?_
 refine WL.quiet (Qt.assign rfl) rfl rfl ?_
 refine WL.nil ?_
 refine WX.next ?_
 refine WC.seq ?_
 refine WC.region ?_
 refine WL.quiet (Qt.move rfl) rfl rfl ?_
 refine WL.quiet (Qt.move rfl) rfl rfl ?_
 refine WL.quiet (Qt.neq rfl rfl) rfl rfl ?_
 refine WL.quiet (Qt.assign rfl) rfl rfl ?_
 refine WL.nil ?_
 refine WX.next ?_
 refine WC.ret ?_
 refine WX.ret1 (.nil) rfl rfl ?_
 exact ⟨by simp, rfl⟩

end Go.Proofs.YtolggjmgfijjfaaGreatDoor.Sep

/- A walk, printed by gen.py out of hints. -/
namespace Go.Proofs.YtolggjmgfijjfaaGreatDoor.Sep
open Go
variable {μ : Prop}
theorem compareW (x y : Int)  : Spec μ Tryz.prog 47 #[.int .i64 x, .int .i64 y] [] fun v Δ => v = .int .i64 (cmpI x y) ∧ Δ = [] := by
 refine Spec.of_body (n := 20) Tryz.func47 rfl rfl rfl fun w0 S0 O0 => ?_
 show WC _ _ _ _ _ _ [(0, .int .i64 x), (1, .int .i64 y)] []
 refine WC.seq ?_
 refine WC.region ?_
 refine WL.quiet (Qt.assign rfl) rfl rfl ?_
 refine WL.nil ?_
 refine WX.next ?_
 refine WC.seq ?_
 refine WC.region ?_
 refine WL.quiet (Qt.move rfl) rfl rfl ?_
 refine WL.call (.nil) (Cl.func cb81 rfl) (isNaNW x) trivial rfl ?_
 rintro _ _ ⟨rfl, rfl⟩
 refine WL.quiet (Qt.assign rfl) rfl rfl ?_
 refine WL.nil ?_
 refine WX.next ?_
 refine WC.seq ?_
 refine WC.region ?_
 refine WL.quiet (Qt.move rfl) rfl rfl ?_
 refine WL.call (.nil) (Cl.func cb81 rfl) (isNaNW y) trivial rfl ?_
 rintro _ _ ⟨rfl, rfl⟩
 refine WL.quiet (Qt.assign rfl) rfl rfl ?_
 refine WL.nil ?_
 refine WX.next ?_
 refine WC.seq ?_
 refine WC.seq ?_
 refine WC.region ?_
 refine WL.quiet (Qt.move rfl) rfl rfl ?_
 refine WL.nil ?_
 refine WX.next ?_
 refine WC.no rfl ?_
 refine WC.skip ?_
 refine WX.next ?_
 refine WC.seq ?_
 refine WC.seq ?_
 refine WC.region ?_
 refine WL.quiet (Qt.move rfl) rfl rfl ?_
 refine WL.nil ?_
 refine WX.next ?_
 refine WC.no rfl ?_
 refine WC.skip ?_
 refine WX.next ?_
 refine WC.seq ?_
 refine WC.seq ?_
 refine WC.region ?_
 refine WL.quiet (Qt.move rfl) rfl rfl ?_
 refine WL.quiet (Qt.move rfl) rfl rfl ?_
 refine WL.quiet (Qt.lss rfl rfl) rfl rfl ?_
 refine WL.nil ?_
 refine WX.next ?_
 refine WC.condD rfl (fun hc_1 => ?_) (fun hc_1 => ?_)
 ·
  refine WC.seq ?_
  refine WC.region ?_
  refine WL.quiet (Qt.assign rfl) rfl rfl ?_
  refine WL.nil ?_
  refine WX.next ?_
  refine WC.ret ?_
  refine WX.pass_ret ?_
  refine WX.ret1 (.nil) rfl rfl ?_
  exact ⟨by unfold cmpI; congr 1; omega, rfl⟩
 ·
  refine WC.skip ?_
  refine WX.next ?_
  refine WC.seq ?_
  refine WC.seq ?_
  refine WC.region ?_
  refine WL.quiet (Qt.move rfl) rfl rfl ?_
  refine WL.quiet (Qt.move rfl) rfl rfl ?_
  refine WL.quiet (Qt.gtr rfl rfl) rfl rfl ?_
  refine WL.nil ?_
  refine WX.next ?_
  refine WC.condD rfl (fun hc_2 => ?_) (fun hc_2 => ?_)
  ·
   refine WC.seq ?_
   refine WC.region ?_
   refine WL.quiet (Qt.assign rfl) rfl rfl ?_
   refine WL.nil ?_
   refine WX.next ?_
   refine WC.ret ?_
   refine WX.pass_ret ?_
   refine WX.ret1 (.nil) rfl rfl ?_
   exact ⟨by unfold cmpI; congr 1; omega, rfl⟩
  ·
   refine WC.skip ?_
   refine WX.next ?_
   refine WC.seq ?_
   refine WC.region ?_
   refine WL.quiet (Qt.assign rfl) rfl rfl ?_
   refine WL.nil ?_
   refine WX.next ?_
   refine WC.ret ?_
   refine WX.ret1 (.nil) rfl rfl ?_
   exact ⟨by unfold cmpI; congr 1; omega, rfl⟩

end Go.Proofs.YtolggjmgfijjfaaGreatDoor.Sep

/- A walk, printed by gen.py out of hints. -/
namespace Go.Proofs.YtolggjmgfijjfaaGreatDoor.Sep
open Go
variable {μ : Prop}
theorem cmpTreesW (a b : PT) (A B : Option Addr) (c d : Nat) (ha : 0 < a.leaves.length ∧ a.leaves.length ≤ 1000000) (hb : 0 < b.leaves.length ∧ b.leaves.length ≤ 1000000) : Spec μ Tryz.prog 46 #[.agg [.int .i64 a.kind, .int .i64 a.n, .slice A a.kids.length c].toArray, .agg [.int .i64 b.kind, .int .i64 b.n, .slice B b.kids.length d].toArray] [rd kTree A c a.kids, rd kTree B d b.kids] fun v Δ => v = .int .i64 (cmpI (leastT a) (leastT b)) ∧ Δ = [] := by
 refine Spec.of_body (n := 12) Tryz.func46 rfl rfl rfl fun w0 S0 O0 => ?_
 show WC _ _ _ _ _ _ [(0, .agg [.int .i64 a.kind, .int .i64 a.n, .slice A a.kids.length c].toArray), (1, .agg [.int .i64 b.kind, .int .i64 b.n, .slice B b.kids.length d].toArray)] [rd kTree A c a.kids, rd kTree B d b.kids]
 refine WC.seq ?_
 refine WC.region ?_
 refine WL.loud (.nil) (Ld.box rfl rfl) trivial rfl ?_
 rintro _ _ ⟨b_1, rfl, rfl⟩
 refine WL.loud (.nil) (Ld.box rfl rfl) trivial rfl ?_
 rintro _ _ ⟨b_2, rfl, rfl⟩
 refine WL.quiet (Qt.assign rfl) rfl rfl ?_
 refine WL.nil ?_
 refine WX.next ?_
 refine WC.seq ?_
 refine WC.calm (Calm.then (calm_FQ _ _)) fun hC => ?_
 refine WC.draw (Γq := [blk b_2 33 [.int .i64 b.kind, .int .i64 b.n, .slice B b.kids.length d], blk b_1 33 [.int .i64 a.kind, .int .i64 a.n, .slice A a.kids.length c], rd kTree A c a.kids, rd kTree B d b.kids]) [0, 1, 2, 3, 4, 5, 6] mixed ?_
 refine WA.named (.take 0 rfl (.take 0 rfl (.u 0 rfl (.u 1 rfl (.nil))))) fun sl_1 => ?_
 refine WA.tk 0 (by kernel_rfl) rfl hC (Qt.loadBA 1 rfl ta33 ti33 rfl rfl) trivial rfl sl_1 ?_
 refine WA.tk 3 (by kernel_rfl) rfl hC (Qt.loadBA 0 rfl ta33 ti33 rfl rfl) trivial rfl sl_1 ?_
 refine WA.one 1 (by kernel_rfl) ?_
 refine WO.call rfl (.u 2 rfl (.nil)) (Cl.func cb49 rfl) (leavesW a _ _ (by omega)) trivial rfl (by rintro _ _ ⟨A_1, c_1, rfl, rfl⟩; exact ⟨_, (.take 1 rfl (.take 1 rfl (.u 1 rfl (.u 2 rfl (.nil)))))⟩) ?_
 rintro _ _ ⟨A_1, c_1, rfl, rfl⟩
 refine WA.turn (.take 0 rfl (.nil)) (freeze_row) ?_
 rintro _ rfl
 refine WA.one 2 (by kernel_rfl) ?_
 refine WO.call rfl (.u 0 rfl (.nil)) (Cl.func cb48 rfl) (minW a.leaves _ _ (by omega)) trivial rfl (by rintro _ _ ⟨rfl, rfl⟩; exact ⟨_, (.take 1 rfl (.take 1 rfl (.u 1 rfl (.u 2 rfl (.nil)))))⟩) ?_
 rintro _ _ ⟨rfl, rfl⟩
 refine WA.one 4 (by kernel_rfl) ?_
 refine WO.call rfl (.u 4 rfl (.nil)) (Cl.func cb49 rfl) (leavesW b _ _ (by omega)) trivial rfl (by rintro _ _ ⟨A_2, c_2, rfl, rfl⟩; exact ⟨_, (.take 2 rfl (.take 2 rfl (.u 2 rfl (.u 3 rfl (.nil)))))⟩) ?_
 rintro _ _ ⟨A_2, c_2, rfl, rfl⟩
 refine WA.turn (.take 0 rfl (.nil)) (freeze_row) ?_
 rintro _ rfl
 refine WA.one 5 (by kernel_rfl) ?_
 refine WO.call rfl (.u 0 rfl (.nil)) (Cl.func cb48 rfl) (minW b.leaves _ _ (by omega)) trivial rfl (by rintro _ _ ⟨rfl, rfl⟩; exact ⟨_, (.take 2 rfl (.take 2 rfl (.u 2 rfl (.u 3 rfl (.nil)))))⟩) ?_
 rintro _ _ ⟨rfl, rfl⟩
 refine WA.one 6 (by kernel_rfl) ?_
 refine WO.call rfl (.nil) (Cl.func cb47 rfl) (compareW (minL a.leaves) (minL b.leaves)) trivial rfl (by rintro _ _ ⟨rfl, rfl⟩; exact ⟨_, (.take 2 rfl (.take 2 rfl (.u 2 rfl (.u 3 rfl (.nil)))))⟩) ?_
 rintro _ _ ⟨rfl, rfl⟩
 refine WA.phase (K' := [0, 1, 2, 3, 4, 5, 6, 7]) (Γq' := [rd kInt A_2 c_2 b.leaves, rd kInt A_1 c_1 a.leaves, blk b_2 33 [.int .i64 b.kind, .int .i64 b.n, .slice B b.kids.length d], blk b_1 33 [.int .i64 a.kind, .int .i64 a.n, .slice A a.kids.length c], rd kTree A c a.kids, rd kTree B d b.kids]) (by kernel_rfl) ?_
 refine WA.named (.u 0 rfl (.u 1 rfl (.take 2 rfl (.take 2 rfl (.u 2 rfl (.u 3 rfl (.nil))))))) fun sl_2 => ?_
 refine WA.tk 7 (by kernel_rfl) rfl hC (Qt.assign rfl) trivial rfl sl_2 ?_
 refine WA.done (by kernel_rfl) ?_
 refine WX.next ?_
 refine WC.ret ?_
 refine WX.ret1 (.nil) rfl rfl ?_
 exact ⟨rfl, rfl⟩

end Go.Proofs.YtolggjmgfijjfaaGreatDoor.Sep

/- A walk, printed by gen.py out of hints. -/
namespace Go.Proofs.YtolggjmgfijjfaaGreatDoor.Sep
open Go
variable {μ : Prop}
theorem sortedW_ih (m : Nat) : ∀ (t : PT) (A : Option Addr) (c : Nat), SizeOf.sizeOf t < m → t.ok → (t.nodes ≤ 300000) → Spec μ Tryz.prog 22 #[.agg [.int .i64 t.kind, .int .i64 t.n, .slice A t.kids.length c].toArray] [rd kTree A c t.kids] fun v Δ => ∃ u A1 c1, v = .agg #[.int .i64 u.kind, .int .i64 u.n, .slice A1 u.kids.length c1] ∧ Δ = [rd kTree A1 c1 u.kids] ∧ SortedT t u := by
 induction m with
 | zero => exact fun t A c h => absurd h (Nat.not_lt_zero _)
 | succ m ih =>
 intro t A c hsz hok hnd
 refine Spec.of_body (n := 33) Tryz.func22 rfl rfl rfl fun w0 S0 O0 => ?_
 show WC _ _ _ _ _ _ [(0, .agg [.int .i64 t.kind, .int .i64 t.n, .slice A t.kids.length c].toArray)] [rd kTree A c t.kids]
 refine WC.learn (Z := Unit) (Δ := fun _ => []) (φ := fun _ => t.kids.length ≤ c ∧ c ≤ 9223372036854775807) 0 rfl (fun S w h => ⟨(), rd_bounds h, nofacts⟩) ?_
 rintro _ ⟨hb_1, hb_2⟩
 refine WC.seq ?_
 refine WC.region ?_
 refine WL.loud (.nil) (Ld.box rfl rfl) trivial rfl ?_
 rintro _ _ ⟨b_1, rfl, rfl⟩
 refine WL.loud (.nil) (Ld.alloc ti33 rfl) trivial rfl ?_
 rintro _ _ ⟨b_2, rfl, rfl⟩
 refine WL.nil ?_
 refine WX.next ?_
 refine WC.seq ?_
 refine WC.region ?_
 refine WL.quiet (Qt.fieldAddrB tf33_0 rfl) rfl rfl ?_
 refine WL.quiet (Qt.loadB 1 rfl ta3 rfl rfl) rfl rfl ?_
 refine WL.quiet (Qt.fieldAddrB tf33_1 rfl) rfl rfl ?_
 refine WL.quiet (Qt.loadB 1 rfl ta3 rfl rfl) rfl rfl ?_
 refine WL.quiet (Qt.build tp33 ti33 rfl rfl rfl) rfl rfl ?_
 refine WL.loud (.nil) (Ld.alloc ti33 rfl) trivial rfl ?_
 rintro _ _ ⟨b_3, rfl, rfl⟩
 refine WL.loud (.take 0 rfl (.nil)) (Ld.store ti33 rfl rfl rfl rfl rfl rfl) trivial rfl ?_
 rintro _ _ rfl
 refine WL.nil ?_
 refine WX.next ?_
 refine WC.seq ?_
 refine WC.seq ?_
 refine WC.region ?_
 refine WL.quiet (Qt.fieldAddrB tf33_2 rfl) rfl rfl ?_
 refine WL.quiet (Qt.loadB 2 rfl ta31 rfl rfl) rfl rfl ?_
 refine WL.quiet (Qt.lenS Tryz.underlying31 rfl) rfl rfl ?_
 refine WL.quiet (Qt.move rfl) rfl rfl ?_
 refine WL.nil ?_
 refine WX.next ?_
 refine WC.block ?_
 refine WC.turn (.nil) (nil_row (e := kTree) (t := 33)) ?_
 rintro _ rfl
 refine WC.loop (fun w0 : Nat × (Option Addr) × Nat × (List PT) => [(2, .pointer (some ⟨b_2, 0, none⟩)), (3, .pointer (some ⟨b_3, 0, none⟩)), (12, .slice A t.kids.length c), (13, .int .i64 ((t.kids.length : Nat) : Int)), (14, .int .i64 ((w0.1 : Nat) : Int))]) (fun w0 => [row kTree 33 w0.2.1 w0.2.2.1 w0.2.2.2, blk b_3 33 [.int .i64 t.kind, .int .i64 t.n, .slice w0.2.1 w0.2.2.2.length w0.2.2.1], blk b_2 33 [.int .i64 0, .int .i64 0, .slice none 0 0], blk b_1 33 [.int .i64 t.kind, .int .i64 t.n, .slice A t.kids.length c], rd kTree A c t.kids]) (fun w0 => w0.1 ≤ t.kids.length ∧ w0.2.2.2.length = w0.1 ∧ SortedTL (t.kids.take w0.1) w0.2.2.2) (fun w0 => t.kids.length - w0.1) (0, none, 0, []) ⟨Nat.zero_le _, rfl, .nil⟩ ⟨rfl, rfl, rfl, rfl, rfl, trivial⟩ (.take 0 rfl (.take 0 rfl (.take 0 rfl (.take 0 rfl (.u 0 rfl (.nil)))))) ?_
 rintro ⟨k, A1, c1, acc⟩ ⟨hk, hal, hacc⟩
 try dsimp only at hk hal hacc
 show WC _ _ _ _ _ _ [(2, .pointer (some ⟨b_2, 0, none⟩)), (3, .pointer (some ⟨b_3, 0, none⟩)), (12, .slice A t.kids.length c), (13, .int .i64 ((t.kids.length : Nat) : Int)), (14, .int .i64 ((k : Nat) : Int))] [row kTree 33 A1 c1 acc, blk b_3 33 [.int .i64 t.kind, .int .i64 t.n, .slice A1 acc.length c1], blk b_2 33 [.int .i64 0, .int .i64 0, .slice none 0 0], blk b_1 33 [.int .i64 t.kind, .int .i64 t.n, .slice A t.kids.length c], rd kTree A c t.kids]
 refine WC.seq ?_
 refine WC.region ?_
 refine WL.quiet (Qt.lss rfl rfl) rfl rfl ?_
 refine WL.nil ?_
 refine WX.next ?_
 refine WC.seq ?_
 refine WC.condD rfl (fun hc_1 => ?_) (fun hc_1 => ?_)
 ·
  refine WC.skip ?_
  refine WX.next ?_
  refine WC.seq ?_
  refine WC.block ?_
  refine WC.seq ?_
  have hnk := nodes_kids t
  refine WC.region ?_
  have hj_1 : k < t.kids.length := by omega
  refine WL.learn 4 rfl (rd_at k hj_1 (vTree _)) ?_
  rintro ⟨p_1, ⟨A_1, c_1⟩⟩ hA_1
  refine WL.quiet (Qt.indexAddrE k hA_1 Tryz.underlying31 ti33 rfl rfl (by first | assumption | omega)) rfl rfl ?_
  refine WL.quiet (Qt.loadCA (p := p_1.add (k * 3)) (o := 0) 0 rfl ta33 ti33 rfl rfl) rfl rfl ?_
  refine WL.loud (.nil) (Ld.alloc ti33 rfl) trivial rfl ?_
  rintro _ _ ⟨b_4, rfl, rfl⟩
  refine WL.loud (.take 0 rfl (.nil)) (Ld.store ti33 rfl rfl rfl rfl rfl rfl) trivial rfl ?_
  rintro _ _ rfl
  refine WL.nil ?_
  refine WX.next ?_
  refine WC.calm (Calm.inBlock (Calm.then (Calm.then (Calm.inBlock (Calm.then (calm_FQ _ _)))))) fun hC => ?_
  refine WC.draw (Γq := [blk b_4 33 [.int .i64 (t.kids[k].kind), .int .i64 (t.kids[k].n), .slice A_1 (t.kids[k].kids.length) c_1], cellsAt (p_1.add (k * 3)) [.int .i64 (t.kids[k].kind), .int .i64 (t.kids[k].n), .slice A_1 (t.kids[k].kids.length) c_1], rd kTree A_1 c_1 (t.kids[k].kids), blk b_3 33 [.int .i64 t.kind, .int .i64 t.n, .slice A1 acc.length c1], blk b_2 33 [.int .i64 0, .int .i64 0, .slice none 0 0], blk b_1 33 [.int .i64 t.kind, .int .i64 t.n, .slice A t.kids.length c], rd kTree A c t.kids]) [0, 1, 2, 3, 4, 5] mixed ?_
  refine WA.named (.take 0 rfl (.u 0 rfl (.u 1 rfl (.take 3 rfl (.take 3 rfl (.take 3 rfl (.u 3 rfl (.nil)))))))) fun sl_1 => ?_
  refine WA.tk 0 (by kernel_rfl) rfl hC (Qt.fieldAddrB tf33_2 rfl) trivial rfl sl_1 ?_
  refine WA.tk 1 (by kernel_rfl) rfl hC (Qt.loadB 3 rfl ta31 rfl rfl) trivial rfl sl_1 ?_
  refine WA.tk 2 (by kernel_rfl) rfl hC (Qt.loadBA 0 rfl ta33 ti33 rfl rfl) trivial rfl sl_1 ?_
  refine WA.one 3 (by kernel_rfl) ?_
  refine WO.call rfl (.u 2 rfl (.nil)) (Cl.func cb22 rfl) (ih (t.kids[k]) _ _ (by have := kid_size t k (by omega); omega) (ok_kid hok k (by omega)) (by have := nodes_kid t k (by omega); omega)) trivial rfl (by rintro _ _ ⟨u_1, A_2, c_2, rfl, rfl, hs_1⟩; exact ⟨_, (.take 1 rfl (.u 1 rfl (.u 2 rfl (.take 4 rfl (.take 4 rfl (.take 4 rfl (.u 4 rfl (.nil))))))))⟩) ?_
  rintro _ _ ⟨u_1, A_2, c_2, rfl, rfl, hs_1⟩
  refine WA.one 4 (by kernel_rfl) ?_
  refine WO.loud rfl (.nil) (Ld.buildSlice (zs := [.int .i64 0, .int .i64 0, .slice none 0 0]) Tryz.underlying31 ti33 rfl rfl (by kernel_rfl) rfl rfl) trivial rfl (by rintro _ _ ⟨b_5, rfl, rfl⟩; exact ⟨_, (.take 2 rfl (.u 2 rfl (.u 3 rfl (.take 5 rfl (.take 5 rfl (.take 5 rfl (.u 5 rfl (.nil))))))))⟩) ?_
  rintro _ _ ⟨b_5, rfl, rfl⟩
  refine WA.one 5 (by kernel_rfl) ?_
  refine WO.loud rfl (.take 5 rfl (.take 0 rfl (.u 0 rfl (.nil)))) (Ld.append1 (e := kTree) (xs := acc) u_1 Tryz.underlying31 ti33 rfl (by decide) (by decide) rfl rfl (by first | omega | (simp; omega)) (fun S w h => mkTreeE (h _ (by simp)))) trivial rfl (by rintro _ _ ⟨A_3, c_3, rfl, rfl⟩; exact ⟨_, (.take 2 rfl (.u 2 rfl (.u 3 rfl (.take 4 rfl (.take 4 rfl (.take 4 rfl (.u 4 rfl (.nil))))))))⟩) ?_
  rintro _ _ ⟨A_3, c_3, rfl, rfl⟩
  refine WA.phase (K' := [0, 1, 2, 3, 4, 5, 6]) (Γq' := [row kTree 33 A_3 c_3 (acc ++ [u_1]), rd kTree A_2 c_2 u_1.kids, blk b_4 33 [.int .i64 (t.kids[k].kind), .int .i64 (t.kids[k].n), .slice A_1 (t.kids[k].kids.length) c_1], cellsAt (p_1.add (k * 3)) [.int .i64 (t.kids[k].kind), .int .i64 (t.kids[k].n), .slice A_1 (t.kids[k].kids.length) c_1], rd kTree A_1 c_1 (t.kids[k].kids), blk b_3 33 [.int .i64 t.kind, .int .i64 t.n, .slice A1 acc.length c1], blk b_2 33 [.int .i64 0, .int .i64 0, .slice none 0 0], blk b_1 33 [.int .i64 t.kind, .int .i64 t.n, .slice A t.kids.length c], rd kTree A c t.kids]) (by kernel_rfl) ?_
  refine WA.named (.take 0 rfl (.u 0 rfl (.take 1 rfl (.u 1 rfl (.u 2 rfl (.take 3 rfl (.take 3 rfl (.take 3 rfl (.u 3 rfl (.nil)))))))))) fun sl_2 => ?_
  refine WA.tk 6 (by kernel_rfl) rfl hC (Qt.fieldAddrB tf33_2 rfl) trivial rfl sl_2 ?_
  refine WA.phase (K' := [0, 1, 2, 3, 4, 5, 6, 7]) (Γq' := [row kTree 33 A_3 c_3 (acc ++ [u_1]), rd kTree A_2 c_2 u_1.kids, blk b_4 33 [.int .i64 (t.kids[k].kind), .int .i64 (t.kids[k].n), .slice A_1 (t.kids[k].kids.length) c_1], cellsAt (p_1.add (k * 3)) [.int .i64 (t.kids[k].kind), .int .i64 (t.kids[k].n), .slice A_1 (t.kids[k].kids.length) c_1], rd kTree A_1 c_1 (t.kids[k].kids), blk b_2 33 [.int .i64 0, .int .i64 0, .slice none 0 0], blk b_1 33 [.int .i64 t.kind, .int .i64 t.n, .slice A t.kids.length c], rd kTree A c t.kids]) (by kernel_rfl) ?_
  refine WA.one 7 (by kernel_rfl) ?_
  refine WO.loud rfl (.take 5 rfl (.nil)) (Ld.store ti31 rfl rfl rfl rfl rfl rfl) trivial rfl (by rintro _ _ rfl; exact ⟨_, (.take 1 rfl (.u 1 rfl (.take 2 rfl (.u 2 rfl (.u 3 rfl (.take 4 rfl (.take 4 rfl (.u 4 rfl (.nil)))))))))⟩) ?_
  rintro _ _ rfl
  refine WA.done (by kernel_rfl) ?_
  refine WX.block_end ?_
  refine WX.next ?_
  refine WC.region ?_
  refine WL.quiet (Qt.add rfl rfl (by omega)) rfl rfl ?_
  refine WL.quiet (Qt.move rfl) rfl rfl ?_
  refine WL.nil ?_
  exact WX.back (k + 1, A_3, c_3, acc ++ [u_1]) ⟨by omega, by simp [hal], hacc.take_succ (by omega) hs_1⟩ (by first | omega | (dsimp only; omega) | (simp; omega)) ⟨rfl, rfl, rfl, rfl, rfl, trivial⟩ (.take 1 rfl (.take 0 rfl (.take 4 rfl (.take 4 rfl (.u 4 rfl (.nil))))))
 ·
  refine WC.exit ?_
  refine WX.pass_exit ?_
  refine WX.pass_exit ?_
  refine WX.block_exit ?_
  refine WX.next ?_
  refine WC.seq ?_
  refine WC.seq ?_
  have hend : SortedTL t.kids acc := by rw [List.take_of_length_le (show t.kids.length ≤ k by omega)] at hacc; exact hacc
  refine WC.region ?_
  refine WL.quiet (Qt.fieldAddrB tf33_0 rfl) rfl rfl ?_
  refine WL.quiet (Qt.loadB 1 rfl ta3 rfl rfl) rfl rfl ?_
  refine WL.quiet (Qt.eql rfl rfl) rfl rfl ?_
  refine WL.nil ?_
  refine WX.next ?_
  refine WC.condD rfl (fun hc_2 => ?_) (fun hc_2 => ?_)
  ·
   have hin := sorted_in hok (by omega) hnd hend
   refine WC.turn (.take 0 rfl (.nil)) (row_open (hin.1)) ?_
   rintro _ ⟨b_6, cur_1, rfl, rfl⟩
   refine WC.region ?_
   refine WL.quiet (Qt.fieldAddrB tf33_2 rfl) rfl rfl ?_
   refine WL.quiet (Qt.loadB 1 rfl ta31 rfl rfl) rfl rfl ?_
   refine WL.call (.take 0 rfl (.nil)) (Cl.func cb45 rfl) (Spec.sortFunc zsort kTree leastT Tryz.isAgg33 Tryz.sizeOf33 cb46 hin.1 hin.2.1 (compares_tree fun a b ha hb A B c d => cmpTreesW a b A B c d (hin.2.2 a ha) (hin.2.2 b hb))) trivial rfl ?_
   rintro _ _ ⟨ys_1, cur_2, rfl, rfl, hp_1, hso_1⟩
   refine WL.nil ?_
   refine WX.next ?_
   refine WC.seq ?_
   refine WC.region ?_
   refine WL.quiet (Qt.loadBA 1 rfl ta33 ti33 rfl rfl) rfl rfl ?_
   refine WL.loud (.take 2 rfl (.nil)) (Ld.store ti33 rfl rfl rfl rfl rfl rfl) trivial rfl ?_
   rintro _ _ rfl
   refine WL.nil ?_
   refine WX.next ?_
   refine WC.ret ?_
   rw [← hp_1.length_eq]
   refine WX.turn (.take 1 rfl (.nil)) (row_close) ?_
   rintro _ rfl
   refine WX.turn (.take 0 rfl (.nil)) (freeze_row) ?_
   rintro _ rfl
   refine WX.retC 1 (.u 0 rfl (.nil)) rfl rfl rfl ta33 ti33 rfl ?_
   exact ⟨.mk t.kind t.n ys_1, _, _, rfl, rfl, by have h := SortedT.mk (n := t.n) (k := t.kind) hend (fun _ => ⟨hp_1, hso_1⟩) (fun h => absurd (by omega) h); rwa [PT.eta] at h⟩
  ·
   refine WC.skip ?_
   refine WX.next ?_
   refine WC.seq ?_
   refine WC.region ?_
   refine WL.quiet (Qt.loadBA 1 rfl ta33 ti33 rfl rfl) rfl rfl ?_
   refine WL.loud (.take 2 rfl (.nil)) (Ld.store ti33 rfl rfl rfl rfl rfl rfl) trivial rfl ?_
   rintro _ _ rfl
   refine WL.nil ?_
   refine WX.next ?_
   refine WC.ret ?_
   refine WX.turn (.take 1 rfl (.nil)) (freeze_row) ?_
   rintro _ rfl
   refine WX.retC 1 (.u 0 rfl (.nil)) rfl rfl rfl ta33 ti33 rfl ?_
   exact ⟨.mk t.kind t.n acc, _, _, rfl, rfl, by have h := SortedT.mk (n := t.n) (k := t.kind) hend (fun h => absurd h (by omega)) (fun _ => rfl); rwa [PT.eta] at h⟩
theorem sortedW (t : PT) (A : Option Addr) (c : Nat) (hok : t.ok) (hnd : t.nodes ≤ 300000) : Spec μ Tryz.prog 22 #[.agg [.int .i64 t.kind, .int .i64 t.n, .slice A t.kids.length c].toArray] [rd kTree A c t.kids] fun v Δ => ∃ u A1 c1, v = .agg #[.int .i64 u.kind, .int .i64 u.n, .slice A1 u.kids.length c1] ∧ Δ = [rd kTree A1 c1 u.kids] ∧ SortedT t u := sortedW_ih _ t A c (Nat.lt_succ_self _) hok hnd

end Go.Proofs.YtolggjmgfijjfaaGreatDoor.Sep

/- A walk, printed by gen.py out of hints. -/
namespace Go.Proofs.YtolggjmgfijjfaaGreatDoor.Sep
open Go
variable {μ : Prop}
theorem reduceW (cs : List Contact) (lb jp : ByteArray) (A B : Option Addr) (c nB d : Nat) (hlen : cs.length ≤ 100000) : Spec μ Tryz.prog 6 #[.agg [.string lb, .slice A cs.length c, .slice B nB d, .string jp].toArray] [rd kContact A c cs] fun v Δ => ∃ (e : Int) (u : PT) (A1 : Option Addr) (c1 : Nat), v = .tuple #[.agg #[.int .i64 u.kind, .int .i64 u.n, .slice A1 u.kids.length c1], .int .i64 e] ∧ Δ = [rd kTree A1 c1 u.kids] ∧ ((e = 0 ∧ WF cs ∧ RedOk cs u) ∨ (e ≠ 0 ∧ u = .mk 0 0 [] ∧ (WF cs → e = 14 ∧ RedBad cs))) := by
 refine Spec.of_body (n := 69) Tryz.func6 rfl rfl rfl fun w0 S0 O0 => ?_
 show WC _ _ _ _ _ _ [(0, .agg [.string lb, .slice A cs.length c, .slice B nB d, .string jp].toArray)] [rd kContact A c cs]
 refine WC.learn (Z := Unit) (Δ := fun _ => []) (φ := fun _ => cs.length ≤ c ∧ c ≤ 9223372036854775807) 0 rfl (fun S w h => ⟨(), rd_bounds h, nofacts⟩) ?_
 rintro _ ⟨hb_1, hb_2⟩
 refine WC.seq ?_
 refine WC.region ?_
 refine WL.loud (.nil) (Ld.box rfl rfl) trivial rfl ?_
 rintro _ _ ⟨b_1, rfl, rfl⟩
 refine WL.loud (.nil) (Ld.alloc ti33 rfl) trivial rfl ?_
 rintro _ _ ⟨b_2, rfl, rfl⟩
 refine WL.quiet (Qt.assign rfl) rfl rfl ?_
 refine WL.nil ?_
 refine WX.next ?_
 refine WC.seq ?_
 refine WC.seq ?_
 refine WC.region ?_
 refine WL.quiet (Qt.loadBA 1 rfl ta25 ti25 rfl rfl) rfl rfl ?_
 refine WL.call (.u 2 rfl (.nil)) (Cl.func cb19 rfl) (flowCheckW cs _ _ _ _ _ _ _ hlen) trivial rfl ?_
 rintro _ _ ⟨e_1, rfl, rfl, hwf_1⟩
 refine WL.quiet (Qt.assign rfl) rfl rfl ?_
 refine WL.nil ?_
 refine WX.next ?_
 refine WC.seq ?_
 refine WC.region ?_
 refine WL.quiet (Qt.move rfl) rfl rfl ?_
 refine WL.quiet (Qt.neq rfl rfl) rfl rfl ?_
 refine WL.nil ?_
 refine WX.next ?_
 refine WC.condD rfl (fun hc_1 => ?_) (fun hc_1 => ?_)
 ·
  refine WC.seq ?_
  refine WC.region ?_
  refine WL.quiet (Qt.build tp33 ti33 rfl rfl rfl) rfl rfl ?_
  refine WL.quiet (Qt.move rfl) rfl rfl ?_
  refine WL.loud (.take 0 rfl (.nil)) (Ld.store ti33 rfl rfl rfl rfl rfl rfl) trivial rfl ?_
  rintro _ _ rfl
  refine WL.quiet (Qt.assign rfl) rfl rfl ?_
  refine WL.nil ?_
  refine WX.next ?_
  refine WC.ret ?_
  refine WX.pass_ret ?_
  refine WX.turn (.nil) (nil_row (e := kTree) (t := 33)) ?_
  rintro _ rfl
  refine WX.turn (.take 0 rfl (.nil)) (freeze_row) ?_
  rintro _ rfl
  refine WX.retC1 1 (.u 0 rfl (.nil)) rfl rfl rfl rfl ta33 ti33 rfl ?_
  exact ⟨_, .mk 0 0 [], _, _, rfl, rfl, .inr ⟨(by simpa using hc_1), rfl, fun h => absurd (hwf_1.1 h) (by simpa using hc_1)⟩⟩
 ·
  refine WC.skip ?_
  refine WX.next ?_
  refine WC.seq ?_
  refine WC.region ?_
  refine WL.quiet (Qt.assign rfl) rfl rfl ?_
  refine WL.nil ?_
  refine WX.next ?_
  refine WC.seq ?_
  refine WC.seq ?_
  refine WC.region ?_
  refine WL.quiet (Qt.fieldAddrB tf25_1 rfl) rfl rfl ?_
  refine WL.quiet (Qt.loadB 1 rfl ta22 rfl rfl) rfl rfl ?_
  refine WL.quiet (Qt.lenS Tryz.underlying22 rfl) rfl rfl ?_
  refine WL.quiet (Qt.move rfl) rfl rfl ?_
  refine WL.nil ?_
  refine WX.next ?_
  refine WC.block ?_
  refine WC.turn (.nil) (nil_row (e := kEdge) (t := 73)) ?_
  rintro _ rfl
  refine WC.loop (fun w0 : Nat × (Option Addr) × Nat × (List Edge) => [(2, .pointer (some ⟨b_2, 0, none⟩)), (3, .int .i64 0), (5, .slice w0.2.1 w0.2.2.2.length w0.2.2.1), (18, .slice A cs.length c), (19, .int .i64 ((cs.length : Nat) : Int)), (20, .int .i64 ((w0.1 : Nat) : Int))]) (fun w0 => [row kEdge 73 w0.2.1 w0.2.2.1 w0.2.2.2, blk b_2 33 [.int .i64 0, .int .i64 0, .slice none 0 0], blk b_1 25 [.string lb, .slice A cs.length c, .slice B nB d, .string jp], rd kContact A c cs]) (fun w0 => w0.1 ≤ cs.length ∧ w0.2.2.2 = initE cs w0.1) (fun w0 => cs.length - w0.1) (0, none, 0, []) ⟨Nat.zero_le _, rfl⟩ ⟨rfl, rfl, rfl, rfl, rfl, rfl, trivial⟩ (.take 0 rfl (.take 0 rfl (.take 0 rfl (.u 0 rfl (.nil))))) ?_
  rintro ⟨k, A1, c1, l⟩ ⟨hk, hl⟩
  try dsimp only at hk hl
  have hll := initE_len cs k hk
  rw [← hl] at hll
  show WC _ _ _ _ _ _ [(2, .pointer (some ⟨b_2, 0, none⟩)), (3, .int .i64 0), (5, .slice A1 l.length c1), (18, .slice A cs.length c), (19, .int .i64 ((cs.length : Nat) : Int)), (20, .int .i64 ((k : Nat) : Int))] [row kEdge 73 A1 c1 l, blk b_2 33 [.int .i64 0, .int .i64 0, .slice none 0 0], blk b_1 25 [.string lb, .slice A cs.length c, .slice B nB d, .string jp], rd kContact A c cs]
  refine WC.seq ?_
  refine WC.region ?_
  refine WL.quiet (Qt.lss rfl rfl) rfl rfl ?_
  refine WL.nil ?_
  refine WX.next ?_
  refine WC.seq ?_
  refine WC.condD rfl (fun hc_2 => ?_) (fun hc_2 => ?_)
  ·
   refine WC.skip ?_
   refine WX.next ?_
   refine WC.seq ?_
   refine WC.block ?_
   refine WC.seq ?_
   refine WC.region ?_
   refine WL.quiet (Qt.move rfl) rfl rfl ?_
   have hj_1 : k < cs.length := by omega
   refine WL.learn 3 rfl (rd_at k hj_1 (vContact _)) ?_
   rintro ⟨p_1, ⟨⟩⟩ hA_1
   refine WL.quiet (Qt.indexAddrE k hA_1 Tryz.underlying22 ti56 rfl rfl (by first | assumption | omega)) rfl rfl ?_
   refine WL.quiet (Qt.loadCA (p := p_1.add (k * 5)) (o := 0) 0 rfl ta56 ti56 rfl rfl) rfl rfl ?_
   refine WL.loud (.nil) (Ld.alloc ti56 rfl) trivial rfl ?_
   rintro _ _ ⟨b_3, rfl, rfl⟩
   refine WL.quiet (Qt.assign rfl) rfl rfl ?_
   refine WL.loud (.take 0 rfl (.nil)) (Ld.store ti56 rfl rfl rfl rfl rfl rfl) trivial rfl ?_
   rintro _ _ rfl
   refine WL.nil ?_
   refine WX.next ?_
   refine WC.region ?_
   refine WL.quiet (Qt.move rfl) rfl rfl ?_
   refine WL.quiet (Qt.fieldAddrB tf56_2 rfl) rfl rfl ?_
   refine WL.quiet (Qt.loadB 0 rfl ta9 rfl rfl) rfl rfl ?_
   refine WL.quiet (Qt.fieldAddrB tf56_3 rfl) rfl rfl ?_
   refine WL.quiet (Qt.loadB 0 rfl ta9 rfl rfl) rfl rfl ?_
   refine WL.quiet (Qt.build tp71 ti71 rfl rfl rfl) rfl rfl ?_
   refine WL.quiet (Qt.move rfl) rfl rfl ?_
   refine WL.quiet (Qt.build tp33 ti33 rfl rfl rfl) rfl rfl ?_
   refine WL.quiet (Qt.build tp73 ti73 rfl rfl rfl) rfl rfl ?_
   refine WL.loud (.nil) (Ld.buildSlice (zs := [.string (⟨#[]⟩ : ByteArray), .string (⟨#[]⟩ : ByteArray), .int .i64 0, .int .i64 0, .slice none 0 0]) Tryz.underlying69 ti73 rfl rfl (by kernel_rfl) rfl rfl) trivial rfl ?_
   rintro _ _ ⟨b_4, rfl, rfl⟩
   refine WL.loud (.take 3 rfl (.take 0 rfl (.nil))) (Ld.append1 (e := kEdge) (xs := l) ⟨cs[k].frm, cs[k].to, .mk 0 ((k : Nat) : Int) []⟩ Tryz.underlying69 ti73 rfl (by decide) (by decide) rfl rfl (by first | omega | (simp; omega)) (fun S w h => mkEdgeNil)) trivial rfl ?_
   rintro _ _ ⟨A_1, c_1, rfl, rfl⟩
   refine WL.quiet (Qt.assign rfl) rfl rfl ?_
   refine WL.nil ?_
   refine WX.block_end ?_
   refine WX.next ?_
   refine WC.region ?_
   refine WL.quiet (Qt.add rfl rfl (by omega)) rfl rfl ?_
   refine WL.quiet (Qt.move rfl) rfl rfl ?_
   refine WL.nil ?_
   exact WX.back (k + 1, A_1, c_1, l ++ [⟨cs[k].frm, cs[k].to, .mk 0 ((k : Nat) : Int) []⟩]) ⟨by omega, by rw [initE_step cs k (by omega), ← hl]⟩ (by first | omega | (dsimp only; omega) | (simp; omega)) ⟨rfl, rfl, rfl, rfl, rfl, rfl, trivial⟩ (.take 0 rfl (.take 2 rfl (.take 2 rfl (.u 2 rfl (.nil)))))
  ·
   refine WC.exit ?_
   refine WX.pass_exit ?_
   refine WX.pass_exit ?_
   refine WX.block_exit ?_
   refine WX.next ?_
   refine WC.seq ?_
   refine WC.seq ?_
   have hWF := hwf_1.2 (by omega); have hpos := hWF.1
   have hend : l = initE cs cs.length := by rw [hl, show k = cs.length from by omega]
   refine WC.turn (.take 0 rfl (.nil)) (row_open (by omega)) ?_
   rintro _ ⟨b_5, cur_1, rfl, rfl⟩
   refine WC.region ?_
   refine WL.quiet (Qt.assign rfl) rfl rfl ?_
   refine WL.nil ?_
   refine WX.next ?_
   refine WC.block ?_
   refine WC.loop (fun w0 : (List Edge) × (List Value) × Bool => [(2, .pointer (some ⟨b_2, 0, none⟩)), (3, .int .i64 0), (5, .slice (some ⟨b_5, 0, none⟩) w0.1.length c1), (8, .bool w0.2.2)]) (fun w0 => [rowL kEdge 73 b_5 c1 w0.1 w0.2.1, blk b_2 33 [.int .i64 0, .int .i64 0, .slice none 0 0], blk b_1 25 [.string lb, .slice A cs.length c, .slice B nB d, .string jp], rd kContact A c cs]) (fun w0 => RInv cs w0.1 ∧ (w0.2.2 = false → Stuck w0.1)) (fun w0 => 2 * w0.1.length + if w0.2.2 = true then 1 else 0) (l, cur_1, true) ⟨by rw [hend]; exact RInv.init cs, fun h => nomatch h⟩ ⟨rfl, rfl, rfl, rfl, trivial⟩ (.take 0 rfl (.take 0 rfl (.take 0 rfl (.u 0 rfl (.nil))))) ?_
   rintro ⟨ys, cu, goes⟩ ⟨hinv, hstk⟩
   try dsimp only at hinv hstk
   have hnb := hinv.2.2
   show WC _ _ _ _ _ _ [(2, .pointer (some ⟨b_2, 0, none⟩)), (3, .int .i64 0), (5, .slice (some ⟨b_5, 0, none⟩) ys.length c1), (8, .bool goes)] [rowL kEdge 73 b_5 c1 ys cu, blk b_2 33 [.int .i64 0, .int .i64 0, .slice none 0 0], blk b_1 25 [.string lb, .slice A cs.length c, .slice B nB d, .string jp], rd kContact A c cs]
   refine WC.seq ?_
   refine WC.seq ?_
   refine WC.region ?_
   refine WL.quiet (Qt.move rfl) rfl rfl ?_
   refine WL.nil ?_
   refine WX.next ?_
   refine WC.cond rfl (fun hc_3 => ?_) (fun hc_3 => ?_)
   ·
    refine WC.skip ?_
    refine WX.next ?_
    refine WC.block ?_
    refine WC.seq ?_
    refine WC.region ?_
    refine WL.quiet (Qt.assign rfl) rfl rfl ?_
    refine WL.quiet (Qt.assign rfl) rfl rfl ?_
    refine WL.nil ?_
    refine WX.next ?_
    refine WC.seq ?_
    refine WC.region ?_
    refine WL.quiet (Qt.move rfl) rfl rfl ?_
    refine WL.call (.take 0 rfl (.nil)) (Cl.func cb20 rfl) (parallelW ys _ _ _ (by omega)) trivial rfl ?_
    rintro _ _ ⟨ys_1, cur_2, r_1, rfl, rfl, hpar_1⟩
    refine WL.quiet (Qt.move rfl) rfl rfl ?_
    refine WL.quiet (Qt.extract rfl rfl) rfl rfl ?_
    refine WL.quiet (Qt.extract rfl rfl) rfl rfl ?_
    refine WL.quiet (Qt.assign rfl) rfl rfl ?_
    refine WL.quiet (Qt.assign rfl) rfl rfl ?_
    refine WL.nil ?_
    refine WX.next ?_
    refine WC.seq ?_
    have hinv1 := hinv.par hpar_1
    have hnb1 := hinv1.2.2
    refine WC.region ?_
    refine WL.quiet (Qt.move rfl) rfl rfl ?_
    refine WL.call (.take 0 rfl (.nil)) (Cl.func cb21 rfl) (seriesW ys_1 _ _ _ (by omega)) trivial rfl ?_
    rintro _ _ ⟨ys_2, cur_3, r_2, rfl, rfl, hser_1⟩
    refine WL.quiet (Qt.move rfl) rfl rfl ?_
    refine WL.quiet (Qt.extract rfl rfl) rfl rfl ?_
    refine WL.quiet (Qt.extract rfl rfl) rfl rfl ?_
    refine WL.quiet (Qt.assign rfl) rfl rfl ?_
    refine WL.quiet (Qt.assign rfl) rfl rfl ?_
    refine WL.nil ?_
    refine WX.next ?_
    refine WC.region ?_
    refine WL.quiet (Qt.move rfl) rfl rfl ?_
    refine WL.quiet (Qt.move rfl) rfl rfl ?_
    refine WL.splitB 49 rfl rfl (fun hg_1 => ?_) (fun hg_1 => ?_)
    ·
     refine WL.skipG 1 false true rfl 49 rfl rfl rfl rfl ?_
     refine WL.quiet (Qt.pickT rfl rfl) rfl rfl ?_
     refine WL.quiet (Qt.assign rfl) rfl rfl ?_
     refine WL.nil ?_
     refine WX.block_end ?_
     exact WX.back (ys_2, cur_3, true) ⟨(hinv.par hpar_1).ser hser_1, fun h => stuck_of2 hpar_1 hser_1 (by simp [hg_1]) h⟩ (by dsimp only; rw [if_pos hc_3]; exact round_less2 hpar_1 hser_1 (by simp [hg_1])) ⟨rfl, rfl, rfl, rfl, trivial⟩ (.take 0 rfl (.take 0 rfl (.take 0 rfl (.u 0 rfl (.nil)))))
    ·
     refine WL.quietG 1 false rfl 49 rfl rfl (Qt.move rfl) rfl ?_
     refine WL.quiet (Qt.pickF rfl rfl) rfl rfl ?_
     refine WL.quiet (Qt.assign rfl) rfl rfl ?_
     refine WL.nil ?_
     refine WX.block_end ?_
     exact WX.back (ys_2, cur_3, r_2) ⟨(hinv.par hpar_1).ser hser_1, fun h => stuck_of2 hpar_1 hser_1 (by simp [hg_1]) h⟩ (by dsimp only; rw [if_pos hc_3]; exact round_less2 hpar_1 hser_1 (by simp [hg_1])) ⟨rfl, rfl, rfl, rfl, trivial⟩ (.take 0 rfl (.take 0 rfl (.take 0 rfl (.u 0 rfl (.nil)))))
   ·
    refine WC.exit ?_
    refine WX.pass_exit ?_
    refine WX.pass_exit ?_
    refine WX.block_exit ?_
    refine WX.next ?_
    refine WC.seq ?_
    refine WC.cut (fun _ : Unit => [(2, .pointer (some ⟨b_2, 0, none⟩)), (3, .int .i64 0), (5, .slice (some ⟨b_5, 0, none⟩) ys.length c1), (62, .bool (notOne ys))]) (fun _ => [rowL kEdge 73 b_5 c1 ys cu, blk b_2 33 [.int .i64 0, .int .i64 0, .slice none 0 0], blk b_1 25 [.string lb, .slice A cs.length c, .slice B nB d, .string jp], rd kContact A c cs]) (fun _ => True) ?_ ?_
    ·
     refine WC.region ?_
     refine WL.quiet (Qt.move rfl) rfl rfl ?_
     refine WL.quiet (Qt.lenS Tryz.underlying69 rfl) rfl rfl ?_
     refine WL.quiet (Qt.neq rfl rfl) rfl rfl ?_
     refine WL.quiet (Qt.move rfl) rfl rfl ?_
     refine WL.splitD 55 rfl rfl (fun hg_2 => ?_) (fun hg_2 => ?_)
     ·
      refine WL.skipG 3 false true rfl 55 rfl rfl rfl rfl ?_
      refine WL.skipG 3 false true rfl 55 rfl rfl rfl rfl ?_
      refine WL.skipG 3 false true rfl 55 rfl rfl rfl rfl ?_
      refine WL.skipG 3 false true rfl 55 rfl rfl rfl rfl ?_
      refine WL.skipG 3 false true rfl 55 rfl rfl rfl rfl ?_
      refine WL.skipG 3 false true rfl 55 rfl rfl rfl rfl ?_
      refine WL.quiet (Qt.pickT rfl rfl) rfl rfl ?_
      refine WL.nil ?_
      exact WX.cut () trivial ⟨rfl, rfl, rfl, (by rw [show notOne ys = true from notOne_len (by omega)]; rfl), trivial⟩ (.take 0 rfl (.take 0 rfl (.take 0 rfl (.u 0 rfl (.nil)))))
     ·
      refine WL.quietG 3 false rfl 55 rfl rfl (Qt.move rfl) rfl ?_
      have hj_2 : 0 < ys.length := by omega
      refine WL.learn 0 rfl (rowL_at 0 hj_2 (vEdge _)) ?_
      rintro ⟨A_2, c_2⟩ hel_1
      refine WL.quietG 3 false rfl 55 rfl rfl (Qt.indexAddrB 0 Tryz.underlying69 ti73 rfl rfl (by first | assumption | omega)) rfl ?_
      refine WL.quietG 3 false rfl 55 rfl rfl (Qt.fieldAddrB tf73_0 rfl) rfl ?_
      refine WL.quietG 3 false rfl 55 rfl rfl (Qt.loadRA (j := 0) (o := 0) 1 rfl hel_1 ta71 ti71 rfl rfl) rfl ?_
      refine WL.quietG 3 false rfl 55 rfl rfl (Qt.build tp71 ti71 rfl rfl rfl) rfl ?_
      refine WL.quietG 3 false rfl 55 rfl rfl (Qt.pairNeq pe71 rfl rfl) rfl ?_
      refine WL.quiet (Qt.pickF rfl rfl) rfl rfl ?_
      refine WL.nil ?_
      exact WX.cut () trivial ⟨rfl, rfl, rfl, (by rw [show notOne ys = (decide (¬ ((ys[0].frm) = (⟨#[76]⟩ : ByteArray) ∧ (ys[0].to) = (⟨#[82]⟩ : ByteArray)))) from notOne_at (by omega) (by omega)]; rfl), trivial⟩ (.take 1 rfl (.take 1 rfl (.take 1 rfl (.u 1 rfl (.nil)))))
    ·
     intro _ _
     show WC _ _ _ _ _ _ [(2, .pointer (some ⟨b_2, 0, none⟩)), (3, .int .i64 0), (5, .slice (some ⟨b_5, 0, none⟩) ys.length c1), (62, .bool (notOne ys))] [rowL kEdge 73 b_5 c1 ys cu, blk b_2 33 [.int .i64 0, .int .i64 0, .slice none 0 0], blk b_1 25 [.string lb, .slice A cs.length c, .slice B nB d, .string jp], rd kContact A c cs]
     refine WC.cond rfl (fun hc_4 => ?_) (fun hc_4 => ?_)
     ·
      refine WC.seq ?_
      refine WC.region ?_
      refine WL.quiet (Qt.build tp33 ti33 rfl rfl rfl) rfl rfl ?_
      refine WL.loud (.take 1 rfl (.nil)) (Ld.store ti33 rfl rfl rfl rfl rfl rfl) trivial rfl ?_
      rintro _ _ rfl
      refine WL.quiet (Qt.assign rfl) rfl rfl ?_
      refine WL.nil ?_
      refine WX.next ?_
      refine WC.ret ?_
      refine WX.pass_ret ?_
      refine WX.turn (.nil) (nil_row (e := kTree) (t := 33)) ?_
      rintro _ rfl
      refine WX.turn (.take 0 rfl (.nil)) (freeze_row) ?_
      rintro _ rfl
      refine WX.retC1 1 (.u 0 rfl (.nil)) rfl rfl rfl rfl ta33 ti33 rfl ?_
      exact ⟨_, .mk 0 0 [], _, _, rfl, rfl, .inr ⟨by decide, rfl, fun _ => ⟨rfl, ys, hinv.1, hstk (by simpa using hc_3), hc_4⟩⟩⟩
     ·
      have hno : notOne ys = false := hc_4
      obtain ⟨x0, hx0, hf0, ht0⟩ := notOne_no hno
      have hy1 : ys.length = 1 := by rw [hx0]; rfl
      have hok0 := hinv.2.1 ys[0] (List.getElem_mem _)
      have hn0 := nodesE_get ys 0 (by omega)
      refine WC.skip ?_
      refine WX.next ?_
      refine WC.seq ?_
      refine WC.region ?_
      refine WL.quiet (Qt.move rfl) rfl rfl ?_
      have hj_3 : 0 < ys.length := by omega
      refine WL.learn 0 rfl (rowL_at 0 hj_3 (vEdge _)) ?_
      rintro ⟨A_3, c_3⟩ hel_2
      refine WL.quiet (Qt.indexAddrB 0 Tryz.underlying69 ti73 rfl rfl (by first | assumption | omega)) rfl rfl ?_
      refine WL.quiet (Qt.fieldAddrB tf73_1 rfl) rfl rfl ?_
      refine WL.quiet (Qt.loadRA (j := 0) (o := 2) 1 rfl hel_2 ta33 ti33 rfl rfl) rfl rfl ?_
      refine WL.call (.u 0 rfl (.nil)) (Cl.func cb22 rfl) (sortedW (ys[0].t) _ _ hok0 (by omega)) trivial rfl ?_
      rintro _ _ ⟨u_1, A_4, c_4, rfl, rfl, hs_1⟩
      refine WL.loud (.take 3 rfl (.nil)) (Ld.store ti33 rfl rfl rfl rfl rfl rfl) trivial rfl ?_
      rintro _ _ rfl
      refine WL.quiet (Qt.assign rfl) rfl rfl ?_
      refine WL.nil ?_
      refine WX.next ?_
      refine WC.ret ?_
      refine WX.retC1 0 (.u 1 rfl (.nil)) rfl rfl rfl rfl ta33 ti33 rfl ?_
      exact ⟨_, u_1, _, _, rfl, rfl, .inl ⟨rfl, hWF, red_ok hinv hno (by omega) hs_1⟩⟩

end Go.Proofs.YtolggjmgfijjfaaGreatDoor.Sep

/- A walk, printed by gen.py out of hints. -/
namespace Go.Proofs.YtolggjmgfijjfaaGreatDoor.Sep
open Go
variable {μ : Prop}
theorem depthLeaf17 (i : Int) (A SA : Option Addr) (n c sc : Nat)  : Spec μ Tryz.prog 121 #[.agg [.int .i64 0, .int .i64 i, .slice A 0 c].toArray, .slice SA n sc] [] fun v Δ => v = .int .i64 0 ∧ Δ = [] := by
 refine Spec.of_body (n := 41) Tryz.func121 rfl rfl rfl fun w0 S0 O0 => ?_
 show WC _ _ _ _ _ _ [(0, .agg [.int .i64 0, .int .i64 i, .slice A 0 c].toArray), (1, .slice SA n sc)] []
 refine WC.seq ?_
 refine WC.region ?_
 refine WL.loud (.nil) (Ld.box rfl rfl) trivial rfl ?_
 rintro _ _ ⟨b_1, rfl, rfl⟩
 refine WL.quiet (Qt.assign rfl) rfl rfl ?_
 refine WL.nil ?_
 refine WX.next ?_
 refine WC.seq ?_
 refine WC.region ?_
 refine WL.quiet (Qt.assign rfl) rfl rfl ?_
 refine WL.nil ?_
 refine WX.next ?_
 refine WC.seq ?_
 refine WC.seq ?_
 refine WC.region ?_
 refine WL.quiet (Qt.fieldAddrB tf33_2 rfl) rfl rfl ?_
 refine WL.quiet (Qt.loadB 0 rfl ta31 rfl rfl) rfl rfl ?_
 refine WL.quiet (Qt.lenS Tryz.underlying31 rfl) rfl rfl ?_
 refine WL.quiet (Qt.move rfl) rfl rfl ?_
 refine WL.nil ?_
 refine WX.next ?_
 refine WC.block ?_
 refine WC.unroll 1 ?_
 refine WR.one ?_
 refine WC.seq ?_
 refine WC.region ?_
 refine WL.quiet (Qt.lss rfl rfl) rfl rfl ?_
 refine WL.nil ?_
 refine WX.next ?_
 refine WC.seq ?_
 refine WC.no rfl ?_
 refine WC.exit ?_
 refine WX.pass_exit ?_
 refine WX.pass_exit ?_
 refine WX.block_exit ?_
 refine WX.next ?_
 refine WC.seq ?_
 refine WC.region ?_
 refine WL.quiet (Qt.move rfl) rfl rfl ?_
 refine WL.quiet (Qt.assign rfl) rfl rfl ?_
 refine WL.nil ?_
 refine WX.next ?_
 refine WC.ret ?_
 refine WX.ret1 (.nil) rfl rfl ?_
 exact ⟨rfl, rfl⟩

end Go.Proofs.YtolggjmgfijjfaaGreatDoor.Sep

/- A walk, printed by gen.py out of hints. -/
namespace Go.Proofs.YtolggjmgfijjfaaGreatDoor.Sep
open Go
variable {μ : Prop}
theorem depth17W (A SA : Option Addr) (c sc : Nat)  : Spec μ Tryz.prog 121 #[.agg [.int .i64 1, .int .i64 0, .slice A 2 c].toArray, .slice SA 2 sc] [rd kTree A c [lf 0, lf 1], rd kBool SA sc [false, false]] fun v Δ => v = .int .i64 0 ∧ Δ = [] := by
 refine Spec.of_body (n := 41) Tryz.func121 rfl rfl rfl fun w0 S0 O0 => ?_
 show WC _ _ _ _ _ _ [(0, .agg [.int .i64 1, .int .i64 0, .slice A 2 c].toArray), (1, .slice SA 2 sc)] [rd kTree A c [lf 0, lf 1], rd kBool SA sc [false, false]]
 refine WC.seq ?_
 refine WC.region ?_
 refine WL.loud (.nil) (Ld.box rfl rfl) trivial rfl ?_
 rintro _ _ ⟨b_1, rfl, rfl⟩
 refine WL.quiet (Qt.assign rfl) rfl rfl ?_
 refine WL.nil ?_
 refine WX.next ?_
 refine WC.seq ?_
 refine WC.region ?_
 refine WL.quiet (Qt.assign rfl) rfl rfl ?_
 refine WL.nil ?_
 refine WX.next ?_
 refine WC.seq ?_
 refine WC.seq ?_
 refine WC.region ?_
 refine WL.quiet (Qt.fieldAddrB tf33_2 rfl) rfl rfl ?_
 refine WL.quiet (Qt.loadB 0 rfl ta31 rfl rfl) rfl rfl ?_
 refine WL.quiet (Qt.lenS Tryz.underlying31 rfl) rfl rfl ?_
 refine WL.quiet (Qt.move rfl) rfl rfl ?_
 refine WL.nil ?_
 refine WX.next ?_
 refine WC.block ?_
 refine WC.unroll 3 ?_
 refine WR.one ?_
 refine WC.seq ?_
 refine WC.region ?_
 refine WL.quiet (Qt.lss rfl rfl) rfl rfl ?_
 refine WL.nil ?_
 refine WX.next ?_
 refine WC.seq ?_
 refine WC.yes rfl ?_
 refine WC.skip ?_
 refine WX.next ?_
 refine WC.seq ?_
 refine WC.block ?_
 refine WC.seq ?_
 refine WC.region ?_
 refine WL.quiet (Qt.move rfl) rfl rfl ?_
 have hj_1 : 0 < [lf 0, lf 1].length := by decide
 refine WL.learn 1 rfl (rd_at 0 hj_1 (vTree _)) ?_
 rintro ⟨p_1, ⟨A_1, c_1⟩⟩ hA_1
 refine WL.quiet (Qt.indexAddrE 0 hA_1 Tryz.underlying31 ti33 rfl rfl (by first | assumption | omega)) rfl rfl ?_
 refine WL.quiet (Qt.loadCA (p := p_1.add (0 * 3)) (o := 0) 0 rfl ta33 ti33 rfl rfl) rfl rfl ?_
 refine WL.loud (.nil) (Ld.alloc ti33 rfl) trivial rfl ?_
 rintro _ _ ⟨b_2, rfl, rfl⟩
 refine WL.quiet (Qt.assign rfl) rfl rfl ?_
 refine WL.loud (.take 0 rfl (.nil)) (Ld.store ti33 rfl rfl rfl rfl rfl rfl) trivial rfl ?_
 rintro _ _ rfl
 refine WL.nil ?_
 refine WX.next ?_
 refine WC.block ?_
 refine WC.seq ?_
 refine WC.region ?_
 refine WL.quiet (Qt.move rfl) rfl rfl ?_
 refine WL.quiet (Qt.eql rfl rfl) rfl rfl ?_
 refine WL.quiet (Qt.assign rfl) rfl rfl ?_
 refine WL.nil ?_
 refine WX.next ?_
 refine WC.yes rfl ?_
 refine WC.region ?_
 refine WL.quiet (Qt.loadBA 0 rfl ta33 ti33 rfl rfl) rfl rfl ?_
 refine WL.quiet (Qt.move rfl) rfl rfl ?_
 refine WL.call (.nil) (Cl.func cb121 rfl) (depthLeaf17 _ _ _ _ _ _) trivial rfl ?_
 rintro _ _ ⟨rfl, rfl⟩
 refine WL.quiet (Qt.assign rfl) rfl rfl ?_
 refine WL.nil ?_
 refine WX.block_end ?_
 refine WX.block_end ?_
 refine WX.next ?_
 refine WC.region ?_
 refine WL.quiet (Qt.to (v' := .int .i64 1) (Qt.add rfl rfl (by decide)) rfl) rfl rfl ?_
 refine WL.quiet (Qt.move rfl) rfl rfl ?_
 refine WL.nil ?_
 refine WX.again ?_
 refine WR.one ?_
 refine WC.seq ?_
 refine WC.region ?_
 refine WL.quiet (Qt.lss rfl rfl) rfl rfl ?_
 refine WL.nil ?_
 refine WX.next ?_
 refine WC.seq ?_
 refine WC.yes rfl ?_
 refine WC.skip ?_
 refine WX.next ?_
 refine WC.seq ?_
 refine WC.block ?_
 refine WC.seq ?_
 refine WC.region ?_
 refine WL.quiet (Qt.move rfl) rfl rfl ?_
 have hj_2 : 1 < [lf 0, lf 1].length := by decide
 refine WL.learn 4 rfl (rd_at 1 hj_2 (vTree _)) ?_
 rintro ⟨p_2, ⟨A_2, c_2⟩⟩ hA_2
 refine WL.quiet (Qt.indexAddrE 1 hA_2 Tryz.underlying31 ti33 rfl rfl (by first | assumption | omega)) rfl rfl ?_
 refine WL.quiet (Qt.loadCA (p := p_2.add (1 * 3)) (o := 0) 0 rfl ta33 ti33 rfl rfl) rfl rfl ?_
 refine WL.loud (.nil) (Ld.alloc ti33 rfl) trivial rfl ?_
 rintro _ _ ⟨b_3, rfl, rfl⟩
 refine WL.quiet (Qt.assign rfl) rfl rfl ?_
 refine WL.loud (.take 0 rfl (.nil)) (Ld.store ti33 rfl rfl rfl rfl rfl rfl) trivial rfl ?_
 rintro _ _ rfl
 refine WL.nil ?_
 refine WX.next ?_
 refine WC.block ?_
 refine WC.seq ?_
 refine WC.region ?_
 refine WL.quiet (Qt.move rfl) rfl rfl ?_
 refine WL.quiet (Qt.eql rfl rfl) rfl rfl ?_
 refine WL.quiet (Qt.assign rfl) rfl rfl ?_
 refine WL.nil ?_
 refine WX.next ?_
 refine WC.no rfl ?_
 refine WC.seq ?_
 refine WC.region ?_
 refine WL.quiet (Qt.fieldAddrB tf33_0 rfl) rfl rfl ?_
 refine WL.quiet (Qt.loadB 0 rfl ta3 rfl rfl) rfl rfl ?_
 refine WL.quiet (Qt.neq rfl rfl) rfl rfl ?_
 refine WL.quiet (Qt.move rfl) rfl rfl ?_
 refine WL.quietG 3 false rfl 26 rfl rfl (Qt.move rfl) rfl ?_
 refine WL.quietG 3 false rfl 26 rfl rfl (Qt.fieldAddrB tf33_1 rfl) rfl ?_
 refine WL.quietG 3 false rfl 26 rfl rfl (Qt.loadB 0 rfl ta3 rfl rfl) rfl ?_
 have hj_3 : 1 < [false, false].length := by decide
 refine WL.learn 8 rfl (rd_at 1 hj_3 (vBool _)) ?_
 rintro ⟨p_3, ⟨⟩⟩ hA_3
 refine WL.quietG 3 false rfl 26 rfl rfl (Qt.indexAddrE 1 hA_3 Tryz.underlying26 ti4 rfl rfl (by first | assumption | omega)) rfl ?_
 refine WL.quietG 3 false rfl 26 rfl rfl (Qt.loadC (p := p_3.add (1 * 1)) (o := 0) 0 rfl ta4 rfl rfl) rfl ?_
 refine WL.quiet (Qt.pickF rfl rfl) rfl rfl ?_
 refine WL.quiet (Qt.assign rfl) rfl rfl ?_
 refine WL.nil ?_
 refine WX.next ?_
 refine WC.no rfl ?_
 refine WC.skip ?_
 refine WX.block_end ?_
 refine WX.block_end ?_
 refine WX.next ?_
 refine WC.region ?_
 refine WL.quiet (Qt.to (v' := .int .i64 2) (Qt.add rfl rfl (by decide)) rfl) rfl rfl ?_
 refine WL.quiet (Qt.move rfl) rfl rfl ?_
 refine WL.nil ?_
 refine WX.again ?_
 refine WR.one ?_
 refine WC.seq ?_
 refine WC.region ?_
 refine WL.quiet (Qt.lss rfl rfl) rfl rfl ?_
 refine WL.nil ?_
 refine WX.next ?_
 refine WC.seq ?_
 refine WC.no rfl ?_
 refine WC.exit ?_
 refine WX.pass_exit ?_
 refine WX.pass_exit ?_
 refine WX.block_exit ?_
 refine WX.next ?_
 refine WC.seq ?_
 refine WC.region ?_
 refine WL.quiet (Qt.move rfl) rfl rfl ?_
 refine WL.quiet (Qt.assign rfl) rfl rfl ?_
 refine WL.nil ?_
 refine WX.next ?_
 refine WC.ret ?_
 refine WX.ret1 (.nil) rfl rfl ?_
 exact ⟨rfl, rfl⟩

end Go.Proofs.YtolggjmgfijjfaaGreatDoor.Sep

/- A walk, printed by gen.py out of hints. -/
namespace Go.Proofs.YtolggjmgfijjfaaGreatDoor.Sep
open Go
variable {μ : Prop}
theorem indexTreeW (xs : List PT) (A : Option Addr) (c fid : Nat) (us : List Value) (F : Fact) (p : PT → Bool) (hcall : Callable Tryz.prog fid) (hf : ∀ (k : Nat) (hk : k < xs.length) (A : Option Addr) (c : Nat), Spec μ Tryz.prog fid ([Value.agg [.int .i64 xs[k].kind, .int .i64 xs[k].n, .slice A xs[k].kids.length c].toArray] ++ us).toArray [rd kTree A c xs[k].kids, F] fun v Δ => v = .bool (p xs[k]) ∧ Δ = [F]) : Spec μ Tryz.prog 83 #[.slice A xs.length c, .func (.func fid) #[] us.toArray] [rd kTree A c xs, F] fun v Δ => v = .int .i64 (idxF p xs) ∧ Δ = [F] := by
 refine Spec.of_body (n := 19) Tryz.func83 rfl rfl rfl fun w0 S0 O0 => ?_
 show WC _ _ _ _ _ _ [(0, .slice A xs.length c), (1, .func (.func fid) #[] us.toArray)] [rd kTree A c xs, F]
 refine WC.learn (Z := Unit) (Δ := fun _ => []) (φ := fun _ => xs.length ≤ c ∧ c ≤ 9223372036854775807) 0 rfl (fun S w h => ⟨(), rd_bounds h, nofacts⟩) ?_
 rintro _ ⟨hb_1, hb_2⟩
 refine WC.seq ?_
 refine WC.region ?_
 refine WL.quiet (Qt.assign rfl) rfl rfl ?_
 refine WL.nil ?_
 refine WX.next ?_
 refine WC.seq ?_
 refine WC.seq ?_
 refine WC.region ?_
 refine WL.quiet (Qt.move rfl) rfl rfl ?_
 refine WL.quiet (Qt.lenS Tryz.underlying31 rfl) rfl rfl ?_
 refine WL.quiet (Qt.move rfl) rfl rfl ?_
 refine WL.nil ?_
 refine WX.next ?_
 refine WC.block ?_
 refine WC.loop (fun w0 : Nat => [(0, .slice A xs.length c), (1, .func (.func fid) #[] us.toArray), (4, .int .i64 0), (7, .int .i64 ((xs.length : Nat) : Int)), (8, .int .i64 ((w0 : Nat) : Int))]) (fun w0 => [rd kTree A c xs, F]) (fun w0 => w0 ≤ xs.length ∧ ∀ (j : Nat) (hj : j < xs.length), j < w0 → p xs[j] = false) (fun w0 => xs.length - w0) 0 ⟨Nat.zero_le _, fun j _ h => absurd h (Nat.not_lt_zero _)⟩ ⟨rfl, rfl, rfl, rfl, rfl, trivial⟩ (.u 0 rfl (.take 1 rfl (.nil))) ?_
 rintro k ⟨hk, hb⟩
 try dsimp only at hk hb
 show WC _ _ _ _ _ _ [(0, .slice A xs.length c), (1, .func (.func fid) #[] us.toArray), (4, .int .i64 0), (7, .int .i64 ((xs.length : Nat) : Int)), (8, .int .i64 ((k : Nat) : Int))] [rd kTree A c xs, F]
 refine WC.seq ?_
 refine WC.region ?_
 refine WL.quiet (Qt.lss rfl rfl) rfl rfl ?_
 refine WL.nil ?_
 refine WX.next ?_
 refine WC.seq ?_
 refine WC.condD rfl (fun hc_1 => ?_) (fun hc_1 => ?_)
 ·
  refine WC.skip ?_
  refine WX.next ?_
  refine WC.seq ?_
  refine WC.block ?_
  refine WC.seq ?_
  refine WC.region ?_
  refine WL.quiet (Qt.move rfl) rfl rfl ?_
  refine WL.quiet (Qt.assign rfl) rfl rfl ?_
  refine WL.nil ?_
  refine WX.next ?_
  refine WC.seq ?_
  refine WC.region ?_
  refine WL.quiet (Qt.move rfl) rfl rfl ?_
  refine WL.quiet (Qt.move rfl) rfl rfl ?_
  refine WL.quiet (Qt.move rfl) rfl rfl ?_
  have hj_1 : k < xs.length := by omega
  refine WL.learn 0 rfl (rd_at k hj_1 (vTree _)) ?_
  rintro ⟨p_1, ⟨A_1, c_1⟩⟩ hA_1
  refine WL.quiet (Qt.indexAddrE k hA_1 Tryz.underlying31 ti33 rfl rfl (by first | assumption | omega)) rfl rfl ?_
  refine WL.quiet (Qt.loadCA (p := p_1.add (k * 3)) (o := 0) 0 rfl ta33 ti33 rfl rfl) rfl rfl ?_
  refine WL.call (.u 1 rfl (.take 3 rfl (.nil))) (Cl.val hcall rfl rfl) (hf k _ _ _) trivial rfl ?_
  rintro _ _ ⟨rfl, rfl⟩
  refine WL.nil ?_
  refine WX.next ?_
  refine WC.cond rfl (fun hc_2 => ?_) (fun hc_2 => ?_)
  ·
   refine WC.seq ?_
   refine WC.region ?_
   refine WL.quiet (Qt.move rfl) rfl rfl ?_
   refine WL.quiet (Qt.assign rfl) rfl rfl ?_
   refine WL.nil ?_
   refine WX.next ?_
   refine WC.ret ?_
   refine WX.block_ret ?_
   refine WX.pass_ret ?_
   refine WX.pass_ret ?_
   refine WX.block_ret ?_
   refine WX.pass_ret ?_
   refine WX.ret1 (.take 0 rfl (.nil)) rfl rfl ?_
   exact ⟨by rw [idxF_at (by omega) hc_2 hb], rfl⟩
  ·
   refine WC.skip ?_
   refine WX.block_end ?_
   refine WX.next ?_
   refine WC.region ?_
   refine WL.quiet (Qt.add rfl rfl (by omega)) rfl rfl ?_
   refine WL.quiet (Qt.move rfl) rfl rfl ?_
   refine WL.nil ?_
   exact WX.back (k + 1) ⟨by omega, notyet hb (by omega) hc_2⟩ (by first | omega | (dsimp only; omega) | (simp; omega)) ⟨rfl, rfl, rfl, rfl, rfl, trivial⟩ (.u 3 rfl (.take 0 rfl (.nil)))
 ·
  refine WC.exit ?_
  refine WX.pass_exit ?_
  refine WX.pass_exit ?_
  refine WX.block_exit ?_
  refine WX.next ?_
  refine WC.seq ?_
  refine WC.region ?_
  refine WL.quiet (Qt.assign rfl) rfl rfl ?_
  refine WL.nil ?_
  refine WX.next ?_
  refine WC.ret ?_
  refine WX.ret1 (.take 1 rfl (.nil)) rfl rfl ?_
  exact ⟨by rw [idxF_none (fun j hj => hb j hj (by omega))], rfl⟩

end Go.Proofs.YtolggjmgfijjfaaGreatDoor.Sep

/- A walk, printed by gen.py out of hints. -/
namespace Go.Proofs.YtolggjmgfijjfaaGreatDoor.Sep
open Go
variable {μ : Prop}
theorem containsTreeW (xs : List PT) (A : Option Addr) (c fid : Nat) (us : List Value) (F : Fact) (p : PT → Bool) (hcall : Callable Tryz.prog fid) (hf : ∀ (k : Nat) (hk : k < xs.length) (A : Option Addr) (c : Nat), Spec μ Tryz.prog fid ([Value.agg [.int .i64 xs[k].kind, .int .i64 xs[k].n, .slice A xs[k].kids.length c].toArray] ++ us).toArray [rd kTree A c xs[k].kids, F] fun v Δ => v = .bool (p xs[k]) ∧ Δ = [F]) : Spec μ Tryz.prog 54 #[.slice A xs.length c, .func (.func fid) #[] us.toArray] [rd kTree A c xs, F] fun v Δ => v = .bool (xs.any p) ∧ Δ = [F] := by
 refine Spec.of_body (n := 9) Tryz.func54 rfl rfl rfl fun w0 S0 O0 => ?_
 show WC _ _ _ _ _ _ [(0, .slice A xs.length c), (1, .func (.func fid) #[] us.toArray)] [rd kTree A c xs, F]
 refine WC.seq ?_
 refine WC.region ?_
 refine WL.quiet (Qt.assign rfl) rfl rfl ?_
 refine WL.nil ?_
 refine WX.next ?_
 refine WC.seq ?_
 refine WC.region ?_
 refine WL.quiet (Qt.move rfl) rfl rfl ?_
 refine WL.quiet (Qt.move rfl) rfl rfl ?_
 refine WL.call (.u 0 rfl (.take 1 rfl (.nil))) (Cl.func cb83 rfl) (indexTreeW xs _ _ fid us F p hcall hf) trivial rfl ?_
 rintro _ _ ⟨rfl, rfl⟩
 refine WL.quiet (Qt.geq rfl rfl) rfl rfl ?_
 refine WL.quiet (Qt.assign rfl) rfl rfl ?_
 refine WL.nil ?_
 refine WX.next ?_
 refine WC.ret ?_
 refine WX.ret1 (.take 0 rfl (.nil)) rfl rfl ?_
 exact ⟨by rw [← idxF_any], rfl⟩

end Go.Proofs.YtolggjmgfijjfaaGreatDoor.Sep

/- A walk, printed by gen.py out of hints. -/
namespace Go.Proofs.YtolggjmgfijjfaaGreatDoor.Sep
open Go
variable {μ : Prop}
theorem sameKindW (x t : PT) (A B : Option Addr) (c d b : Nat)  : Spec μ Tryz.prog 82 #[.agg [.int .i64 x.kind, .int .i64 x.n, .slice A x.kids.length c].toArray, .pointer (some ⟨b, 0, none⟩)] [rd kTree A c x.kids, blk b 33 [.int .i64 t.kind, .int .i64 t.n, .slice B t.kids.length d]] fun v Δ => v = .bool (decide (x.kind = t.kind)) ∧ Δ = [blk b 33 [.int .i64 t.kind, .int .i64 t.n, .slice B t.kids.length d]] := by
 refine Spec.of_body (n := 9) Tryz.func82 rfl rfl rfl fun w0 S0 O0 => ?_
 show WC _ _ _ _ _ _ [(0, .agg [.int .i64 x.kind, .int .i64 x.n, .slice A x.kids.length c].toArray), (1, .pointer (some ⟨b, 0, none⟩))] [rd kTree A c x.kids, blk b 33 [.int .i64 t.kind, .int .i64 t.n, .slice B t.kids.length d]]
 refine WC.seq ?_
 refine WC.region ?_
 refine WL.loud (.nil) (Ld.box rfl rfl) trivial rfl ?_
 rintro _ _ ⟨b_1, rfl, rfl⟩
 refine WL.quiet (Qt.assign rfl) rfl rfl ?_
 refine WL.nil ?_
 refine WX.next ?_
 refine WC.seq ?_
 refine WC.region ?_
 refine WL.quiet (Qt.fieldAddrB tf33_0 rfl) rfl rfl ?_
 refine WL.quiet (Qt.loadB 0 rfl ta3 rfl rfl) rfl rfl ?_
 refine WL.quiet (Qt.fieldAddrB tf33_0 rfl) rfl rfl ?_
 refine WL.quiet (Qt.loadB 2 rfl ta3 rfl rfl) rfl rfl ?_
 refine WL.quiet (Qt.eql rfl rfl) rfl rfl ?_
 refine WL.quiet (Qt.assign rfl) rfl rfl ?_
 refine WL.nil ?_
 refine WX.next ?_
 refine WC.ret ?_
 refine WX.ret1 (.take 2 rfl (.nil)) rfl rfl ?_
 exact ⟨rfl, rfl⟩

end Go.Proofs.YtolggjmgfijjfaaGreatDoor.Sep

/- A walk, printed by gen.py out of hints. -/
namespace Go.Proofs.YtolggjmgfijjfaaGreatDoor.Sep
open Go
variable {μ : Prop}
theorem checkW_ih (m : Nat) : ∀ (t : PT) (many : Int) (ks : List Int) (A : Option Addr) (c b : Nat), SizeOf.sizeOf t < m → Spec μ Tryz.prog 50 #[.agg [.int .i64 t.kind, .int .i64 t.n, .slice A t.kids.length c].toArray, .int .i64 many, .map (some b)] [rd kTree A c t.kids, mp intKey Value.bool b (trues ks)] fun v Δ => ∃ (e : Int) (ks1 : List Int), v = .int .i64 e ∧ Δ = [mp intKey Value.bool b (trues ks1)] ∧ (e = 0 → Vld many ks t ∧ ks1 = ks ++ t.leaves) ∧ (Vld many ks t → e = 0) := by
 induction m with
 | zero => exact fun t many ks A c b h => absurd h (Nat.not_lt_zero _)
 | succ m ih =>
 intro t many ks A c b hsz 
 refine Spec.of_body (n := 96) Tryz.func50 rfl rfl rfl fun w0 S0 O0 => ?_
 show WC _ _ _ _ _ _ [(0, .agg [.int .i64 t.kind, .int .i64 t.n, .slice A t.kids.length c].toArray), (1, .int .i64 many), (2, .map (some b))] [rd kTree A c t.kids, mp intKey Value.bool b (trues ks)]
 refine WC.learn (Z := Unit) (Δ := fun _ => []) (φ := fun _ => t.kids.length ≤ c ∧ c ≤ 9223372036854775807) 0 rfl (fun S w h => ⟨(), rd_bounds h, nofacts⟩) ?_
 rintro _ ⟨hb_1, hb_2⟩
 refine WC.seq ?_
 refine WC.region ?_
 refine WL.loud (.nil) (Ld.box rfl rfl) trivial rfl ?_
 rintro _ _ ⟨b_1, rfl, rfl⟩
 refine WL.quiet (Qt.assign rfl) rfl rfl ?_
 refine WL.nil ?_
 refine WX.next ?_
 refine WC.seq ?_
 refine WC.block ?_
 refine WC.cut (fun _ : Unit => [(1, .int .i64 many), (2, .map (some b)), (3, .pointer (some ⟨b_1, 0, none⟩)), (6, .int .i64 0), (10, .bool (decide (((t.kind : Int) < 0) ∨ ((t.kind : Int) > 2))))]) (fun _ => [blk b_1 33 [.int .i64 t.kind, .int .i64 t.n, .slice A t.kids.length c], rd kTree A c t.kids, mp intKey Value.bool b (trues ks)]) (fun _ => True) ?_ ?_
 ·
  refine WC.region ?_
  refine WL.quiet (Qt.fieldAddrB tf33_0 rfl) rfl rfl ?_
  refine WL.quiet (Qt.loadB 0 rfl ta3 rfl rfl) rfl rfl ?_
  refine WL.quiet (Qt.lss rfl rfl) rfl rfl ?_
  refine WL.quiet (Qt.move rfl) rfl rfl ?_
  refine WL.splitD 14 rfl rfl (fun hg_1 => ?_) (fun hg_1 => ?_)
  ·
   refine WL.skipG 3 false true rfl 14 rfl rfl rfl rfl ?_
   refine WL.skipG 3 false true rfl 14 rfl rfl rfl rfl ?_
   refine WL.skipG 3 false true rfl 14 rfl rfl rfl rfl ?_
   refine WL.quiet (Qt.pickT rfl rfl) rfl rfl ?_
   refine WL.quiet (Qt.assign rfl) rfl rfl ?_
   refine WL.nil ?_
   exact WX.cut () trivial ⟨rfl, rfl, rfl, rfl, (by rw [show decide (((t.kind : Int) < 0) ∨ ((t.kind : Int) > 2)) = true from by first | (simp [hg_1]; done) | exact decide_eq_decide.2 (by omega) | exact decide_eq_true (by omega) | exact decide_eq_false (by omega) | (simp [hg_1] <;> omega)]; rfl), trivial⟩ (.take 0 rfl (.u 0 rfl (.take 1 rfl (.nil))))
  ·
   refine WL.quietG 3 false rfl 14 rfl rfl (Qt.fieldAddrB tf33_0 rfl) rfl ?_
   refine WL.quietG 3 false rfl 14 rfl rfl (Qt.loadB 0 rfl ta3 rfl rfl) rfl ?_
   refine WL.quietG 3 false rfl 14 rfl rfl (Qt.gtr rfl rfl) rfl ?_
   refine WL.quiet (Qt.pickF rfl rfl) rfl rfl ?_
   refine WL.quiet (Qt.assign rfl) rfl rfl ?_
   refine WL.nil ?_
   exact WX.cut () trivial ⟨rfl, rfl, rfl, rfl, (by rw [show decide (((t.kind : Int) < 0) ∨ ((t.kind : Int) > 2)) = (decide ((t.kind : Int) > 2)) from by first | (simp [hg_1]; done) | exact decide_eq_decide.2 (by omega) | exact decide_eq_true (by omega) | exact decide_eq_false (by omega) | (simp [hg_1] <;> omega)]; rfl), trivial⟩ (.take 0 rfl (.u 0 rfl (.take 1 rfl (.nil))))
 ·
  intro _ _
  show WC _ _ _ _ _ _ [(1, .int .i64 many), (2, .map (some b)), (3, .pointer (some ⟨b_1, 0, none⟩)), (6, .int .i64 0), (10, .bool (decide (((t.kind : Int) < 0) ∨ ((t.kind : Int) > 2))))] [blk b_1 33 [.int .i64 t.kind, .int .i64 t.n, .slice A t.kids.length c], rd kTree A c t.kids, mp intKey Value.bool b (trues ks)]
  refine WC.condD rfl (fun hc_1 => ?_) (fun hc_1 => ?_)
  ·
   refine WC.seq ?_
   refine WC.region ?_
   refine WL.quiet (Qt.assign rfl) rfl rfl ?_
   refine WL.nil ?_
   refine WX.next ?_
   refine WC.ret ?_
   refine WX.block_ret ?_
   refine WX.pass_ret ?_
   refine WX.ret1 (.take 2 rfl (.nil)) rfl rfl ?_
   exact ⟨_, _, rfl, rfl, fun h => absurd h (by decide), fun hv => by have hs := hv.shape; omega⟩
  ·
   refine WC.cut (fun _ : Unit => [(1, .int .i64 many), (2, .map (some b)), (3, .pointer (some ⟨b_1, 0, none⟩)), (6, .int .i64 0), (19, .bool (decide ((((t.kind : Int) = 0) ∧ (((t.kids.length : Nat) : Int) > 0)) ∨ (((t.kind : Int) ≠ 0) ∧ ((t.n : Int) ≠ 0)))))]) (fun _ => [blk b_1 33 [.int .i64 t.kind, .int .i64 t.n, .slice A t.kids.length c], rd kTree A c t.kids, mp intKey Value.bool b (trues ks)]) (fun _ => True) ?_ ?_
   ·
    refine WC.region ?_
    refine WL.quiet (Qt.fieldAddrB tf33_0 rfl) rfl rfl ?_
    refine WL.quiet (Qt.loadB 0 rfl ta3 rfl rfl) rfl rfl ?_
    refine WL.quiet (Qt.eql rfl rfl) rfl rfl ?_
    refine WL.quiet (Qt.move rfl) rfl rfl ?_
    refine WL.splitD 23 rfl rfl (fun hg_2 => ?_) (fun hg_2 => ?_)
    ·
     refine WL.quietG 3 true rfl 23 rfl rfl (Qt.fieldAddrB tf33_2 rfl) rfl ?_
     refine WL.quietG 3 true rfl 23 rfl rfl (Qt.loadB 0 rfl ta31 rfl rfl) rfl ?_
     refine WL.quietG 3 true rfl 23 rfl rfl (Qt.lenS Tryz.underlying31 rfl) rfl ?_
     refine WL.quietG 3 true rfl 23 rfl rfl (Qt.gtr rfl rfl) rfl ?_
     refine WL.quiet (Qt.pickT rfl rfl) rfl rfl ?_
     refine WL.quiet (Qt.move rfl) rfl rfl ?_
     refine WL.splitD 29 rfl rfl (fun hg_3 => ?_) (fun hg_3 => ?_)
     ·
      refine WL.skipG 9 false true rfl 29 rfl rfl rfl rfl ?_
      refine WL.skipG 9 false true rfl 29 rfl rfl rfl rfl ?_
      refine WL.skipG 9 false true rfl 29 rfl rfl rfl rfl ?_
      refine WL.skipG 9 false true rfl 29 rfl rfl rfl rfl ?_
      refine WL.skipU 13 true rfl 33 rfl rfl rfl ?_
      refine WL.skipU 13 true rfl 33 rfl rfl rfl ?_
      refine WL.skipU 13 true rfl 33 rfl rfl rfl ?_
      refine WL.skipG 9 false true rfl 29 rfl rfl rfl rfl ?_
      refine WL.quiet (Qt.pickT rfl rfl) rfl rfl ?_
      refine WL.quiet (Qt.assign rfl) rfl rfl ?_
      refine WL.nil ?_
      exact WX.cut () trivial ⟨rfl, rfl, rfl, rfl, (by rw [show decide ((((t.kind : Int) = 0) ∧ (((t.kids.length : Nat) : Int) > 0)) ∨ (((t.kind : Int) ≠ 0) ∧ ((t.n : Int) ≠ 0))) = true from by first | (simp [hg_2, hg_3]; done) | exact decide_eq_decide.2 (by omega) | exact decide_eq_true (by omega) | exact decide_eq_false (by omega) | (simp [hg_2, hg_3] <;> omega)]; rfl), trivial⟩ (.take 0 rfl (.u 0 rfl (.take 1 rfl (.nil))))
     ·
      refine WL.quietG 9 false rfl 29 rfl rfl (Qt.fieldAddrB tf33_0 rfl) rfl ?_
      refine WL.quietG 9 false rfl 29 rfl rfl (Qt.loadB 0 rfl ta3 rfl rfl) rfl ?_
      refine WL.quietG 9 false rfl 29 rfl rfl (Qt.neq rfl rfl) rfl ?_
      refine WL.quietG 9 false rfl 29 rfl rfl (Qt.move rfl) rfl ?_
      refine WL.splitD 33 rfl rfl (fun hg_4 => ?_) (fun hg_4 => ?_)
      ·
       refine WL.quietG 13 true rfl 33 rfl rfl (Qt.fieldAddrB tf33_1 rfl) rfl ?_
       refine WL.quietG 13 true rfl 33 rfl rfl (Qt.loadB 0 rfl ta3 rfl rfl) rfl ?_
       refine WL.quietG 13 true rfl 33 rfl rfl (Qt.neq rfl rfl) rfl ?_
       refine WL.quietG 9 false rfl 29 rfl rfl (Qt.pickT rfl rfl) rfl ?_
       refine WL.quiet (Qt.pickF rfl rfl) rfl rfl ?_
       refine WL.quiet (Qt.assign rfl) rfl rfl ?_
       refine WL.nil ?_
       exact WX.cut () trivial ⟨rfl, rfl, rfl, rfl, (by rw [show decide ((((t.kind : Int) = 0) ∧ (((t.kids.length : Nat) : Int) > 0)) ∨ (((t.kind : Int) ≠ 0) ∧ ((t.n : Int) ≠ 0))) = (decide ((t.n : Int) ≠ 0)) from by first | (simp [hg_2, hg_3, hg_4]; done) | exact decide_eq_decide.2 (by omega) | exact decide_eq_true (by omega) | exact decide_eq_false (by omega) | (simp [hg_2, hg_3, hg_4] <;> omega)]; rfl), trivial⟩ (.take 0 rfl (.u 0 rfl (.take 1 rfl (.nil))))
      ·
       refine WL.skipG 13 true false rfl 33 rfl rfl rfl rfl ?_
       refine WL.skipG 13 true false rfl 33 rfl rfl rfl rfl ?_
       refine WL.skipG 13 true false rfl 33 rfl rfl rfl rfl ?_
       refine WL.quietG 9 false rfl 29 rfl rfl (Qt.pickF rfl rfl) rfl ?_
       refine WL.quiet (Qt.pickF rfl rfl) rfl rfl ?_
       refine WL.quiet (Qt.assign rfl) rfl rfl ?_
       refine WL.nil ?_
       exact WX.cut () trivial ⟨rfl, rfl, rfl, rfl, (by rw [show decide ((((t.kind : Int) = 0) ∧ (((t.kids.length : Nat) : Int) > 0)) ∨ (((t.kind : Int) ≠ 0) ∧ ((t.n : Int) ≠ 0))) = false from by first | (simp [hg_2, hg_3, hg_4]; done) | exact decide_eq_decide.2 (by omega) | exact decide_eq_true (by omega) | exact decide_eq_false (by omega) | (simp [hg_2, hg_3, hg_4] <;> omega)]; rfl), trivial⟩ (.take 0 rfl (.u 0 rfl (.take 1 rfl (.nil))))
    ·
     refine WL.skipG 3 true false rfl 23 rfl rfl rfl rfl ?_
     refine WL.skipG 3 true false rfl 23 rfl rfl rfl rfl ?_
     refine WL.skipG 3 true false rfl 23 rfl rfl rfl rfl ?_
     refine WL.skipG 3 true false rfl 23 rfl rfl rfl rfl ?_
     refine WL.quiet (Qt.pickF rfl rfl) rfl rfl ?_
     refine WL.quiet (Qt.move rfl) rfl rfl ?_
     refine WL.quietG 9 false rfl 29 rfl rfl (Qt.fieldAddrB tf33_0 rfl) rfl ?_
     refine WL.quietG 9 false rfl 29 rfl rfl (Qt.loadB 0 rfl ta3 rfl rfl) rfl ?_
     refine WL.quietG 9 false rfl 29 rfl rfl (Qt.neq rfl rfl) rfl ?_
     refine WL.quietG 9 false rfl 29 rfl rfl (Qt.move rfl) rfl ?_
     refine WL.splitD 33 rfl rfl (fun hg_5 => ?_) (fun hg_5 => ?_)
     ·
      refine WL.quietG 13 true rfl 33 rfl rfl (Qt.fieldAddrB tf33_1 rfl) rfl ?_
      refine WL.quietG 13 true rfl 33 rfl rfl (Qt.loadB 0 rfl ta3 rfl rfl) rfl ?_
      refine WL.quietG 13 true rfl 33 rfl rfl (Qt.neq rfl rfl) rfl ?_
      refine WL.quietG 9 false rfl 29 rfl rfl (Qt.pickT rfl rfl) rfl ?_
      refine WL.quiet (Qt.pickF rfl rfl) rfl rfl ?_
      refine WL.quiet (Qt.assign rfl) rfl rfl ?_
      refine WL.nil ?_
      exact WX.cut () trivial ⟨rfl, rfl, rfl, rfl, (by rw [show decide ((((t.kind : Int) = 0) ∧ (((t.kids.length : Nat) : Int) > 0)) ∨ (((t.kind : Int) ≠ 0) ∧ ((t.n : Int) ≠ 0))) = (decide ((t.n : Int) ≠ 0)) from by first | (simp [hg_2, hg_5]; done) | exact decide_eq_decide.2 (by omega) | exact decide_eq_true (by omega) | exact decide_eq_false (by omega) | (simp [hg_2, hg_5] <;> omega)]; rfl), trivial⟩ (.take 0 rfl (.u 0 rfl (.take 1 rfl (.nil))))
     ·
      refine WL.skipG 13 true false rfl 33 rfl rfl rfl rfl ?_
      refine WL.skipG 13 true false rfl 33 rfl rfl rfl rfl ?_
      refine WL.skipG 13 true false rfl 33 rfl rfl rfl rfl ?_
      refine WL.quietG 9 false rfl 29 rfl rfl (Qt.pickF rfl rfl) rfl ?_
      refine WL.quiet (Qt.pickF rfl rfl) rfl rfl ?_
      refine WL.quiet (Qt.assign rfl) rfl rfl ?_
      refine WL.nil ?_
      exact WX.cut () trivial ⟨rfl, rfl, rfl, rfl, (by rw [show decide ((((t.kind : Int) = 0) ∧ (((t.kids.length : Nat) : Int) > 0)) ∨ (((t.kind : Int) ≠ 0) ∧ ((t.n : Int) ≠ 0))) = false from by first | (simp [hg_2, hg_5]; done) | exact decide_eq_decide.2 (by omega) | exact decide_eq_true (by omega) | exact decide_eq_false (by omega) | (simp [hg_2, hg_5] <;> omega)]; rfl), trivial⟩ (.take 0 rfl (.u 0 rfl (.take 1 rfl (.nil))))
   ·
    intro _ _
    show WC _ _ _ _ _ _ [(1, .int .i64 many), (2, .map (some b)), (3, .pointer (some ⟨b_1, 0, none⟩)), (6, .int .i64 0), (19, .bool (decide ((((t.kind : Int) = 0) ∧ (((t.kids.length : Nat) : Int) > 0)) ∨ (((t.kind : Int) ≠ 0) ∧ ((t.n : Int) ≠ 0)))))] [blk b_1 33 [.int .i64 t.kind, .int .i64 t.n, .slice A t.kids.length c], rd kTree A c t.kids, mp intKey Value.bool b (trues ks)]
    refine WC.condD rfl (fun hc_2 => ?_) (fun hc_2 => ?_)
    ·
     refine WC.seq ?_
     refine WC.region ?_
     refine WL.quiet (Qt.assign rfl) rfl rfl ?_
     refine WL.nil ?_
     refine WX.next ?_
     refine WC.ret ?_
     refine WX.block_ret ?_
     refine WX.pass_ret ?_
     refine WX.ret1 (.take 2 rfl (.nil)) rfl rfl ?_
     exact ⟨_, _, rfl, rfl, fun h => absurd h (by decide), fun hv => by have hs := hv.shape; omega⟩
    ·
     refine WC.cut (fun _ : Unit => [(1, .int .i64 many), (2, .map (some b)), (3, .pointer (some ⟨b_1, 0, none⟩)), (6, .int .i64 0), (39, .bool (decide (((t.kind : Int) = 0) ∧ (((t.n : Int) < 0) ∨ ((t.n : Int) ≥ many)))))]) (fun _ => [blk b_1 33 [.int .i64 t.kind, .int .i64 t.n, .slice A t.kids.length c], rd kTree A c t.kids, mp intKey Value.bool b (trues ks)]) (fun _ => True) ?_ ?_
     ·
      refine WC.region ?_
      refine WL.quiet (Qt.fieldAddrB tf33_0 rfl) rfl rfl ?_
      refine WL.quiet (Qt.loadB 0 rfl ta3 rfl rfl) rfl rfl ?_
      refine WL.quiet (Qt.eql rfl rfl) rfl rfl ?_
      refine WL.quiet (Qt.move rfl) rfl rfl ?_
      refine WL.splitD 43 rfl rfl (fun hg_6 => ?_) (fun hg_6 => ?_)
      ·
       refine WL.quietG 3 true rfl 43 rfl rfl (Qt.fieldAddrB tf33_1 rfl) rfl ?_
       refine WL.quietG 3 true rfl 43 rfl rfl (Qt.loadB 0 rfl ta3 rfl rfl) rfl ?_
       refine WL.quietG 3 true rfl 43 rfl rfl (Qt.lss rfl rfl) rfl ?_
       refine WL.quietG 3 true rfl 43 rfl rfl (Qt.move rfl) rfl ?_
       refine WL.splitD 47 rfl rfl (fun hg_7 => ?_) (fun hg_7 => ?_)
       ·
        refine WL.skipG 7 false true rfl 47 rfl rfl rfl rfl ?_
        refine WL.skipG 7 false true rfl 47 rfl rfl rfl rfl ?_
        refine WL.skipG 7 false true rfl 47 rfl rfl rfl rfl ?_
        refine WL.skipG 7 false true rfl 47 rfl rfl rfl rfl ?_
        refine WL.quietG 3 true rfl 43 rfl rfl (Qt.pickT rfl rfl) rfl ?_
        refine WL.quiet (Qt.pickT rfl rfl) rfl rfl ?_
        refine WL.quiet (Qt.assign rfl) rfl rfl ?_
        refine WL.nil ?_
        exact WX.cut () trivial ⟨rfl, rfl, rfl, rfl, (by rw [show decide (((t.kind : Int) = 0) ∧ (((t.n : Int) < 0) ∨ ((t.n : Int) ≥ many))) = true from by first | (simp [hg_6, hg_7]; done) | exact decide_eq_decide.2 (by omega) | exact decide_eq_true (by omega) | exact decide_eq_false (by omega) | (simp [hg_6, hg_7] <;> omega)]; rfl), trivial⟩ (.take 0 rfl (.u 0 rfl (.take 1 rfl (.nil))))
       ·
        refine WL.quietG 7 false rfl 47 rfl rfl (Qt.fieldAddrB tf33_1 rfl) rfl ?_
        refine WL.quietG 7 false rfl 47 rfl rfl (Qt.loadB 0 rfl ta3 rfl rfl) rfl ?_
        refine WL.quietG 7 false rfl 47 rfl rfl (Qt.move rfl) rfl ?_
        refine WL.quietG 7 false rfl 47 rfl rfl (Qt.geq rfl rfl) rfl ?_
        refine WL.quietG 3 true rfl 43 rfl rfl (Qt.pickF rfl rfl) rfl ?_
        refine WL.quiet (Qt.pickT rfl rfl) rfl rfl ?_
        refine WL.quiet (Qt.assign rfl) rfl rfl ?_
        refine WL.nil ?_
        exact WX.cut () trivial ⟨rfl, rfl, rfl, rfl, (by rw [show decide (((t.kind : Int) = 0) ∧ (((t.n : Int) < 0) ∨ ((t.n : Int) ≥ many))) = (decide ((t.n : Int) ≥ many)) from by first | (simp [hg_6, hg_7]; done) | exact decide_eq_decide.2 (by omega) | exact decide_eq_true (by omega) | exact decide_eq_false (by omega) | (simp [hg_6, hg_7] <;> omega)]; rfl), trivial⟩ (.take 0 rfl (.u 0 rfl (.take 1 rfl (.nil))))
      ·
       refine WL.skipG 3 true false rfl 43 rfl rfl rfl rfl ?_
       refine WL.skipG 3 true false rfl 43 rfl rfl rfl rfl ?_
       refine WL.skipG 3 true false rfl 43 rfl rfl rfl rfl ?_
       refine WL.skipG 3 true false rfl 43 rfl rfl rfl rfl ?_
       refine WL.skipU 7 false rfl 47 rfl rfl rfl ?_
       refine WL.skipU 7 false rfl 47 rfl rfl rfl ?_
       refine WL.skipU 7 false rfl 47 rfl rfl rfl ?_
       refine WL.skipU 7 false rfl 47 rfl rfl rfl ?_
       refine WL.skipG 3 true false rfl 43 rfl rfl rfl rfl ?_
       refine WL.quiet (Qt.pickF rfl rfl) rfl rfl ?_
       refine WL.quiet (Qt.assign rfl) rfl rfl ?_
       refine WL.nil ?_
       exact WX.cut () trivial ⟨rfl, rfl, rfl, rfl, (by rw [show decide (((t.kind : Int) = 0) ∧ (((t.n : Int) < 0) ∨ ((t.n : Int) ≥ many))) = false from by first | (simp [hg_6]; done) | exact decide_eq_decide.2 (by omega) | exact decide_eq_true (by omega) | exact decide_eq_false (by omega) | (simp [hg_6] <;> omega)]; rfl), trivial⟩ (.take 0 rfl (.u 0 rfl (.take 1 rfl (.nil))))
     ·
      intro _ _
      show WC _ _ _ _ _ _ [(1, .int .i64 many), (2, .map (some b)), (3, .pointer (some ⟨b_1, 0, none⟩)), (6, .int .i64 0), (39, .bool (decide (((t.kind : Int) = 0) ∧ (((t.n : Int) < 0) ∨ ((t.n : Int) ≥ many)))))] [blk b_1 33 [.int .i64 t.kind, .int .i64 t.n, .slice A t.kids.length c], rd kTree A c t.kids, mp intKey Value.bool b (trues ks)]
      refine WC.condD rfl (fun hc_3 => ?_) (fun hc_3 => ?_)
      ·
       refine WC.seq ?_
       refine WC.region ?_
       refine WL.quiet (Qt.assign rfl) rfl rfl ?_
       refine WL.nil ?_
       refine WX.next ?_
       refine WC.ret ?_
       refine WX.block_ret ?_
       refine WX.pass_ret ?_
       refine WX.ret1 (.take 2 rfl (.nil)) rfl rfl ?_
       exact ⟨_, _, rfl, rfl, fun h => absurd h (by decide), fun hv => by have hs := hv.shape; omega⟩
      ·
       refine WC.cut (fun _ : Unit => [(1, .int .i64 many), (2, .map (some b)), (3, .pointer (some ⟨b_1, 0, none⟩)), (6, .int .i64 0), (54, .bool (decide (((t.kind : Int) = 0) ∧ ((mlook (trues ks) t.n).getD false = true))))]) (fun _ => [blk b_1 33 [.int .i64 t.kind, .int .i64 t.n, .slice A t.kids.length c], rd kTree A c t.kids, mp intKey Value.bool b (trues ks)]) (fun _ => True) ?_ ?_
       ·
        refine WC.region ?_
        refine WL.quiet (Qt.fieldAddrB tf33_0 rfl) rfl rfl ?_
        refine WL.quiet (Qt.loadB 0 rfl ta3 rfl rfl) rfl rfl ?_
        refine WL.quiet (Qt.eql rfl rfl) rfl rfl ?_
        refine WL.quiet (Qt.move rfl) rfl rfl ?_
        refine WL.splitD 58 rfl rfl (fun hg_8 => ?_) (fun hg_8 => ?_)
        ·
         refine WL.quietG 3 true rfl 58 rfl rfl (Qt.move rfl) rfl ?_
         refine WL.quietG 3 true rfl 58 rfl rfl (Qt.fieldAddrB tf33_1 rfl) rfl ?_
         refine WL.quietG 3 true rfl 58 rfl rfl (Qt.loadB 0 rfl ta3 rfl rfl) rfl ?_
         refine WL.quietG 3 true rfl 58 rfl rfl (Qt.lookup (z := false) 2 rfl Tryz.underlying118 Tryz.underlying3 ti4 rfl rfl) rfl ?_
         refine WL.quiet (Qt.pickT rfl rfl) rfl rfl ?_
         refine WL.quiet (Qt.assign rfl) rfl rfl ?_
         refine WL.nil ?_
         exact WX.cut () trivial ⟨rfl, rfl, rfl, rfl, (by rw [show decide (((t.kind : Int) = 0) ∧ ((mlook (trues ks) t.n).getD false = true)) = (mlook (trues ks) t.n).getD false from by first | (simp [hg_8]; done) | exact decide_eq_decide.2 (by omega) | exact decide_eq_true (by omega) | exact decide_eq_false (by omega) | (simp [hg_8] <;> omega)]; rfl), trivial⟩ (.take 0 rfl (.u 0 rfl (.take 1 rfl (.nil))))
        ·
         refine WL.skipG 3 true false rfl 58 rfl rfl rfl rfl ?_
         refine WL.skipG 3 true false rfl 58 rfl rfl rfl rfl ?_
         refine WL.skipG 3 true false rfl 58 rfl rfl rfl rfl ?_
         refine WL.skipG 3 true false rfl 58 rfl rfl rfl rfl ?_
         refine WL.quiet (Qt.pickF rfl rfl) rfl rfl ?_
         refine WL.quiet (Qt.assign rfl) rfl rfl ?_
         refine WL.nil ?_
         exact WX.cut () trivial ⟨rfl, rfl, rfl, rfl, (by rw [show decide (((t.kind : Int) = 0) ∧ ((mlook (trues ks) t.n).getD false = true)) = false from by first | (simp [hg_8]; done) | exact decide_eq_decide.2 (by omega) | exact decide_eq_true (by omega) | exact decide_eq_false (by omega) | (simp [hg_8] <;> omega)]; rfl), trivial⟩ (.take 0 rfl (.u 0 rfl (.take 1 rfl (.nil))))
       ·
        intro _ _
        show WC _ _ _ _ _ _ [(1, .int .i64 many), (2, .map (some b)), (3, .pointer (some ⟨b_1, 0, none⟩)), (6, .int .i64 0), (54, .bool (decide (((t.kind : Int) = 0) ∧ ((mlook (trues ks) t.n).getD false = true))))] [blk b_1 33 [.int .i64 t.kind, .int .i64 t.n, .slice A t.kids.length c], rd kTree A c t.kids, mp intKey Value.bool b (trues ks)]
        refine WC.condD rfl (fun hc_4 => ?_) (fun hc_4 => ?_)
        ·
         refine WC.seq ?_
         refine WC.region ?_
         refine WL.quiet (Qt.assign rfl) rfl rfl ?_
         refine WL.nil ?_
         refine WX.next ?_
         refine WC.ret ?_
         refine WX.block_ret ?_
         refine WX.pass_ret ?_
         refine WX.ret1 (.take 2 rfl (.nil)) rfl rfl ?_
         exact ⟨_, _, rfl, rfl, fun h => absurd h (by decide), fun hv => (hv.fresh (by omega) (look_yes hc_4.2)).elim⟩
        ·
         refine WC.seq ?_
         refine WC.region ?_
         refine WL.quiet (Qt.fieldAddrB tf33_0 rfl) rfl rfl ?_
         refine WL.quiet (Qt.loadB 0 rfl ta3 rfl rfl) rfl rfl ?_
         refine WL.quiet (Qt.eql rfl rfl) rfl rfl ?_
         refine WL.quiet (Qt.assign rfl) rfl rfl ?_
         refine WL.nil ?_
         refine WX.next ?_
         refine WC.condD rfl (fun hc_5 => ?_) (fun hc_5 => ?_)
         ·
          refine WC.seq ?_
          refine WC.region ?_
          refine WL.quiet (Qt.move rfl) rfl rfl ?_
          refine WL.quiet (Qt.fieldAddrB tf33_1 rfl) rfl rfl ?_
          refine WL.quiet (Qt.loadB 0 rfl ta3 rfl rfl) rfl rfl ?_
          refine WL.loud (.take 2 rfl (.nil)) (Ld.update Tryz.underlying118 Tryz.underlying3 rfl rfl rfl) trivial rfl ?_
          rintro _ _ rfl
          refine WL.nil ?_
          refine WX.next ?_
          refine WC.seq ?_
          refine WC.region ?_
          refine WL.quiet (Qt.assign rfl) rfl rfl ?_
          refine WL.nil ?_
          refine WX.next ?_
          refine WC.ret ?_
          refine WX.block_ret ?_
          refine WX.pass_ret ?_
          have hnew : t.n ∉ ks := look_no (fun h => hc_4 ⟨by omega, h⟩)
          have hl0 := leaves_leaf t (by omega)
          refine WX.ret1 (.take 0 rfl (.nil)) rfl rfl ?_
          exact ⟨_, ks ++ [t.n], rfl, by rw [mset_new hnew], fun _ => ⟨Vld.leaf (by omega) (by omega) (by omega) (by omega) hnew, by rw [hl0]⟩, fun _ => rfl⟩
         ·
          refine WC.seq ?_
          refine WC.region ?_
          refine WL.quiet (Qt.fieldAddrB tf33_2 rfl) rfl rfl ?_
          refine WL.quiet (Qt.loadB 0 rfl ta31 rfl rfl) rfl rfl ?_
          refine WL.quiet (Qt.lenS Tryz.underlying31 rfl) rfl rfl ?_
          refine WL.quiet (Qt.lss rfl rfl) rfl rfl ?_
          refine WL.quiet (Qt.assign rfl) rfl rfl ?_
          refine WL.nil ?_
          refine WX.next ?_
          refine WC.condD rfl (fun hc_6 => ?_) (fun hc_6 => ?_)
          ·
           refine WC.seq ?_
           refine WC.region ?_
           refine WL.quiet (Qt.assign rfl) rfl rfl ?_
           refine WL.nil ?_
           refine WX.next ?_
           refine WC.ret ?_
           refine WX.block_ret ?_
           refine WX.pass_ret ?_
           refine WX.ret1 (.take 2 rfl (.nil)) rfl rfl ?_
           exact ⟨_, _, rfl, rfl, fun h => absurd h (by decide), fun hv => by have hs := hv.shape; omega⟩
          ·
           refine WC.seq ?_
           refine WC.region ?_
           refine WL.quiet (Qt.fieldAddrB tf33_2 rfl) rfl rfl ?_
           refine WL.quiet (Qt.loadB 0 rfl ta31 rfl rfl) rfl rfl ?_
           refine WL.quiet (Qt.makeFunc (vs := []) rfl rfl) rfl rfl ?_
           refine WL.call (.u 1 rfl (.take 0 rfl (.nil))) (Cl.func cb54 rfl) (containsTreeW t.kids _ _ 82 [.pointer (some ⟨b_1, 0, none⟩)] (blk b_1 33 [.int .i64 t.kind, .int .i64 t.n, .slice A t.kids.length c]) (fun x => decide (x.kind = t.kind)) cb82 (fun k hk A2 c2 => sameKindW t.kids[k] t A2 A c2 c b_1)) trivial rfl ?_
           rintro _ _ ⟨rfl, rfl⟩
           refine WL.quiet (Qt.assign rfl) rfl rfl ?_
           refine WL.nil ?_
           refine WX.next ?_
           refine WC.cond rfl (fun hc_7 => ?_) (fun hc_7 => ?_)
           ·
            refine WC.seq ?_
            refine WC.region ?_
            refine WL.quiet (Qt.assign rfl) rfl rfl ?_
            refine WL.nil ?_
            refine WX.next ?_
            refine WC.ret ?_
            refine WX.block_ret ?_
            refine WX.pass_ret ?_
            refine WX.ret1 (.take 2 rfl (.nil)) rfl rfl ?_
            exact ⟨_, _, rfl, rfl, fun h => absurd h (by decide), fun hv => by rw [hv.nokind (by omega)] at hc_7; cases hc_7⟩
           ·
            refine WC.skip ?_
            refine WX.block_end ?_
            refine WX.next ?_
            refine WC.seq ?_
            refine WC.seq ?_
            refine WC.region ?_
            refine WL.quiet (Qt.fieldAddrB tf33_2 rfl) rfl rfl ?_
            refine WL.quiet (Qt.loadB 0 rfl ta31 rfl rfl) rfl rfl ?_
            refine WL.quiet (Qt.lenS Tryz.underlying31 rfl) rfl rfl ?_
            refine WL.quiet (Qt.move rfl) rfl rfl ?_
            refine WL.nil ?_
            refine WX.next ?_
            refine WC.block ?_
            refine WC.loop (fun w0 : Nat × (List Int) => [(1, .int .i64 many), (2, .map (some b)), (6, .int .i64 0), (82, .slice A t.kids.length c), (83, .int .i64 ((t.kids.length : Nat) : Int)), (84, .int .i64 ((w0.1 : Nat) : Int))]) (fun w0 => [blk b_1 33 [.int .i64 t.kind, .int .i64 t.n, .slice A t.kids.length c], rd kTree A c t.kids, mp intKey Value.bool b (trues w0.2)]) (fun w0 => w0.1 ≤ t.kids.length ∧ okL (t.kids.take w0.1) ∧ VL many ks (leavesL (t.kids.take w0.1)) ∧ w0.2 = ks ++ leavesL (t.kids.take w0.1)) (fun w0 => t.kids.length - w0.1) (0, ks) ⟨Nat.zero_le _, trivial, ⟨by simp [leavesL], by simp [leavesL], by simp [leavesL]⟩, by simp [leavesL]⟩ ⟨rfl, rfl, rfl, rfl, rfl, rfl, trivial⟩ (.take 0 rfl (.u 0 rfl (.take 1 rfl (.nil)))) ?_
            rintro ⟨k, ks1⟩ ⟨hk, hok, hvl, hks⟩
            try dsimp only at hk hok hvl hks
            show WC _ _ _ _ _ _ [(1, .int .i64 many), (2, .map (some b)), (6, .int .i64 0), (82, .slice A t.kids.length c), (83, .int .i64 ((t.kids.length : Nat) : Int)), (84, .int .i64 ((k : Nat) : Int))] [blk b_1 33 [.int .i64 t.kind, .int .i64 t.n, .slice A t.kids.length c], rd kTree A c t.kids, mp intKey Value.bool b (trues ks1)]
            refine WC.seq ?_
            refine WC.region ?_
            refine WL.quiet (Qt.lss rfl rfl) rfl rfl ?_
            refine WL.nil ?_
            refine WX.next ?_
            refine WC.seq ?_
            refine WC.condD rfl (fun hc_8 => ?_) (fun hc_8 => ?_)
            ·
             refine WC.skip ?_
             refine WX.next ?_
             refine WC.seq ?_
             refine WC.block ?_
             refine WC.seq ?_
             refine WC.region ?_
             have hj_1 : k < t.kids.length := by omega
             refine WL.learn 1 rfl (rd_at k hj_1 (vTree _)) ?_
             rintro ⟨p_1, ⟨A_1, c_1⟩⟩ hA_1
             refine WL.quiet (Qt.indexAddrE k hA_1 Tryz.underlying31 ti33 rfl rfl (by first | assumption | omega)) rfl rfl ?_
             refine WL.quiet (Qt.loadCA (p := p_1.add (k * 3)) (o := 0) 0 rfl ta33 ti33 rfl rfl) rfl rfl ?_
             refine WL.loud (.nil) (Ld.alloc ti33 rfl) trivial rfl ?_
             rintro _ _ ⟨b_2, rfl, rfl⟩
             refine WL.loud (.take 0 rfl (.nil)) (Ld.store ti33 rfl rfl rfl rfl rfl rfl) trivial rfl ?_
             rintro _ _ rfl
             refine WL.nil ?_
             refine WX.next ?_
             refine WC.seq ?_
             refine WC.region ?_
             refine WL.quiet (Qt.loadBA 0 rfl ta33 ti33 rfl rfl) rfl rfl ?_
             refine WL.quiet (Qt.move rfl) rfl rfl ?_
             refine WL.quiet (Qt.move rfl) rfl rfl ?_
             refine WL.call (.u 2 rfl (.take 5 rfl (.nil))) (Cl.func cb50 rfl) (ih (t.kids[k]) many ks1 _ _ b (by have := kid_size t k (by omega); omega)) trivial rfl ?_
             rintro _ _ ⟨e_1, ks_1, rfl, rfl, he_1, hv_1⟩
             refine WL.quiet (Qt.assign rfl) rfl rfl ?_
             refine WL.nil ?_
             refine WX.next ?_
             refine WC.seq ?_
             refine WC.region ?_
             refine WL.quiet (Qt.move rfl) rfl rfl ?_
             refine WL.quiet (Qt.neq rfl rfl) rfl rfl ?_
             refine WL.nil ?_
             refine WX.next ?_
             refine WC.condD rfl (fun hc_9 => ?_) (fun hc_9 => ?_)
             ·
              refine WC.seq ?_
              refine WC.region ?_
              refine WL.quiet (Qt.move rfl) rfl rfl ?_
              refine WL.quiet (Qt.assign rfl) rfl rfl ?_
              refine WL.nil ?_
              refine WX.next ?_
              refine WC.ret ?_
              refine WX.block_ret ?_
              refine WX.pass_ret ?_
              refine WX.pass_ret ?_
              refine WX.block_ret ?_
              refine WX.pass_ret ?_
              refine WX.ret1 (.take 0 rfl (.nil)) rfl rfl ?_
              exact ⟨_, _, rfl, rfl, fun h => absurd h (by omega), fun hv => hv_1 (by rw [hks]; exact hv.kid (by omega) (by omega))⟩
             ·
              refine WC.skip ?_
              refine WX.block_end ?_
              refine WX.next ?_
              refine WC.region ?_
              refine WL.quiet (Qt.add rfl rfl (by omega)) rfl rfl ?_
              refine WL.quiet (Qt.move rfl) rfl rfl ?_
              refine WL.nil ?_
              have hkid := he_1 (by omega)
              exact WX.back (k + 1, ks_1) ⟨by omega, okL_take (by omega) hok hkid.1.1, by rw [leavesL_take _ _ (by omega), VL_append, ← hks]; exact ⟨hvl, hkid.1.2⟩, by rw [leavesL_take _ _ (by omega), hkid.2, hks, List.append_assoc]⟩ (by first | omega | (dsimp only; omega) | (simp; omega)) ⟨rfl, rfl, rfl, rfl, rfl, rfl, trivial⟩ (.take 4 rfl (.u 4 rfl (.take 0 rfl (.nil))))
            ·
             refine WC.exit ?_
             refine WX.pass_exit ?_
             refine WX.pass_exit ?_
             refine WX.block_exit ?_
             refine WX.next ?_
             refine WC.seq ?_
             refine WC.region ?_
             refine WL.quiet (Qt.assign rfl) rfl rfl ?_
             refine WL.nil ?_
             refine WX.next ?_
             refine WC.ret ?_
             have htk : t.kids.take k = t.kids := List.take_of_length_le (by omega)
             rw [htk] at hok hvl hks
             refine WX.ret1 (.take 2 rfl (.nil)) rfl rfl ?_
             exact ⟨_, _, rfl, rfl, fun _ => ⟨Vld.of (by omega) (by omega) (by omega) hc_7 hok hvl, by rw [hks, leaves_kids t (by omega)]⟩, fun _ => rfl⟩
theorem checkW (t : PT) (many : Int) (ks : List Int) (A : Option Addr) (c b : Nat)  : Spec μ Tryz.prog 50 #[.agg [.int .i64 t.kind, .int .i64 t.n, .slice A t.kids.length c].toArray, .int .i64 many, .map (some b)] [rd kTree A c t.kids, mp intKey Value.bool b (trues ks)] fun v Δ => ∃ (e : Int) (ks1 : List Int), v = .int .i64 e ∧ Δ = [mp intKey Value.bool b (trues ks1)] ∧ (e = 0 → Vld many ks t ∧ ks1 = ks ++ t.leaves) ∧ (Vld many ks t → e = 0) := checkW_ih _ t many ks A c b (Nat.lt_succ_self _) 

end Go.Proofs.YtolggjmgfijjfaaGreatDoor.Sep

/- A walk, printed by gen.py out of hints. -/
namespace Go.Proofs.YtolggjmgfijjfaaGreatDoor.Sep
open Go
variable {μ : Prop}
theorem treeCheckW (t : PT) (many : Int) (A : Option Addr) (c : Nat)  : Spec μ Tryz.prog 26 #[.agg [.int .i64 t.kind, .int .i64 t.n, .slice A t.kids.length c].toArray, .int .i64 many] [rd kTree A c t.kids] fun v Δ => ∃ e : Int, v = .int .i64 e ∧ Δ = [] ∧ (e = 0 ↔ Vld many [] t ∧ (t.leaves.length : Int) = max 0 many) := by
 refine Spec.of_body (n := 22) Tryz.func26 rfl rfl rfl fun w0 S0 O0 => ?_
 show WC _ _ _ _ _ _ [(0, .agg [.int .i64 t.kind, .int .i64 t.n, .slice A t.kids.length c].toArray), (1, .int .i64 many)] [rd kTree A c t.kids]
 refine WC.seq ?_
 refine WC.region ?_
 refine WL.loud (.nil) (Ld.box rfl rfl) trivial rfl ?_
 rintro _ _ ⟨b_1, rfl, rfl⟩
 refine WL.quiet (Qt.assign rfl) rfl rfl ?_
 refine WL.nil ?_
 refine WX.next ?_
 refine WC.seq ?_
 refine WC.region ?_
 refine WL.loud (.nil) (Ld.makeMap (E := intKey) (V := Value.bool)) trivial rfl ?_
 rintro _ _ ⟨b_2, rfl, rfl⟩
 refine WL.quiet (Qt.assign rfl) rfl rfl ?_
 refine WL.nil ?_
 refine WX.next ?_
 refine WC.seq ?_
 refine WC.region ?_
 refine WL.quiet (Qt.loadBA 1 rfl ta33 ti33 rfl rfl) rfl rfl ?_
 refine WL.quiet (Qt.move rfl) rfl rfl ?_
 refine WL.quiet (Qt.move rfl) rfl rfl ?_
 refine WL.call (.u 2 rfl (.take 0 rfl (.nil))) (Cl.func cb50 rfl) (checkW t many [] _ _ b_2) trivial rfl ?_
 rintro _ _ ⟨e_1, ks_1, rfl, rfl, he_1, hv_1⟩
 refine WL.quiet (Qt.assign rfl) rfl rfl ?_
 refine WL.nil ?_
 refine WX.next ?_
 refine WC.seq ?_
 refine WC.cut (fun _ : Unit => [(4, .int .i64 0), (6, .int .i64 e_1), (20, .bool (decide (((e_1 : Int) = 0) ∧ ((((trues ks_1).length : Nat) : Int) ≠ (if many > 0 then many else 0)))))]) (fun _ => [mp intKey Value.bool b_2 (trues ks_1), blk b_1 33 [.int .i64 t.kind, .int .i64 t.n, .slice A t.kids.length c], rd kTree A c t.kids]) (fun _ => True) ?_ ?_
 ·
  refine WC.region ?_
  refine WL.quiet (Qt.move rfl) rfl rfl ?_
  refine WL.quiet (Qt.eql rfl rfl) rfl rfl ?_
  refine WL.quiet (Qt.move rfl) rfl rfl ?_
  refine WL.splitD 14 rfl rfl (fun hg_1 => ?_) (fun hg_1 => ?_)
  ·
   refine WL.quietG 2 true rfl 14 rfl rfl (Qt.move rfl) rfl ?_
   refine WL.quietG 2 true rfl 14 rfl rfl (Qt.lenM 0 rfl Tryz.underlying118 rfl) rfl ?_
   refine WL.quietG 2 true rfl 14 rfl rfl (Qt.move rfl) rfl ?_
   refine WL.quietG 2 true rfl 14 rfl rfl (Qt.max2 rfl rfl) rfl ?_
   refine WL.quietG 2 true rfl 14 rfl rfl (Qt.neq rfl rfl) rfl ?_
   refine WL.quiet (Qt.pickT rfl rfl) rfl rfl ?_
   refine WL.nil ?_
   exact WX.cut () trivial ⟨rfl, rfl, (by rw [show decide (((e_1 : Int) = 0) ∧ ((((trues ks_1).length : Nat) : Int) ≠ (if many > 0 then many else 0))) = (decide ((((trues ks_1).length : Nat) : Int) ≠ (if many > 0 then many else 0))) from by first | (simp [hg_1]; done) | exact decide_eq_decide.2 (by omega) | exact decide_eq_true (by omega) | exact decide_eq_false (by omega) | (simp [hg_1] <;> omega)]; rfl), trivial⟩ (.take 0 rfl (.take 0 rfl (.u 0 rfl (.nil))))
  ·
   refine WL.skipG 2 true false rfl 14 rfl rfl rfl rfl ?_
   refine WL.skipG 2 true false rfl 14 rfl rfl rfl rfl ?_
   refine WL.skipG 2 true false rfl 14 rfl rfl rfl rfl ?_
   refine WL.skipG 2 true false rfl 14 rfl rfl rfl rfl ?_
   refine WL.skipG 2 true false rfl 14 rfl rfl rfl rfl ?_
   refine WL.quiet (Qt.pickF rfl rfl) rfl rfl ?_
   refine WL.nil ?_
   exact WX.cut () trivial ⟨rfl, rfl, (by rw [show decide (((e_1 : Int) = 0) ∧ ((((trues ks_1).length : Nat) : Int) ≠ (if many > 0 then many else 0))) = false from by first | (simp [hg_1]; done) | exact decide_eq_decide.2 (by omega) | exact decide_eq_true (by omega) | exact decide_eq_false (by omega) | (simp [hg_1] <;> omega)]; rfl), trivial⟩ (.take 0 rfl (.take 0 rfl (.u 0 rfl (.nil))))
 ·
  intro _ _
  show WC _ _ _ _ _ _ [(4, .int .i64 0), (6, .int .i64 e_1), (20, .bool (decide (((e_1 : Int) = 0) ∧ ((((trues ks_1).length : Nat) : Int) ≠ (if many > 0 then many else 0)))))] [mp intKey Value.bool b_2 (trues ks_1), blk b_1 33 [.int .i64 t.kind, .int .i64 t.n, .slice A t.kids.length c], rd kTree A c t.kids]
  refine WC.condD rfl (fun hc_1 => ?_) (fun hc_1 => ?_)
  ·
   refine WC.region ?_
   refine WL.quiet (Qt.assign rfl) rfl rfl ?_
   refine WL.nil ?_
   refine WX.next ?_
   refine WC.seq ?_
   refine WC.region ?_
   refine WL.quiet (Qt.move rfl) rfl rfl ?_
   refine WL.quiet (Qt.assign rfl) rfl rfl ?_
   refine WL.nil ?_
   refine WX.next ?_
   refine WC.ret ?_
   rw [trues_length] at hc_1
   refine WX.ret1 (.nil) rfl rfl ?_
   exact ⟨_, rfl, rfl, check_iff4 he_1 hc_1⟩
  ·
   refine WC.skip ?_
   refine WX.next ?_
   refine WC.seq ?_
   refine WC.region ?_
   refine WL.quiet (Qt.move rfl) rfl rfl ?_
   refine WL.quiet (Qt.assign rfl) rfl rfl ?_
   refine WL.nil ?_
   refine WX.next ?_
   refine WC.ret ?_
   rw [trues_length] at hc_1
   refine WX.ret1 (.nil) rfl rfl ?_
   exact ⟨_, rfl, rfl, check_iff he_1 hv_1 hc_1⟩

end Go.Proofs.YtolggjmgfijjfaaGreatDoor.Sep

/- A walk, printed by gen.py out of hints. -/
namespace Go.Proofs.YtolggjmgfijjfaaGreatDoor.Sep
open Go
variable {μ : Prop}
theorem stackDepth17W (A SA : Option Addr) (c sc : Nat)  : Spec μ Tryz.prog 94 #[.agg [.int .i64 1, .int .i64 0, .slice A 2 c].toArray, .slice SA 2 sc] [rd kTree A c [lf 0, lf 1], rd kBool SA sc [false, false]] fun v Δ => v = .tuple #[.int .i64 0, .int .i64 0] ∧ Δ = [] := by
 refine Spec.of_body (n := 17) Tryz.func94 rfl rfl rfl fun w0 S0 O0 => ?_
 show WC _ _ _ _ _ _ [(0, .agg [.int .i64 1, .int .i64 0, .slice A 2 c].toArray), (1, .slice SA 2 sc)] [rd kTree A c [lf 0, lf 1], rd kBool SA sc [false, false]]
 refine WC.seq ?_
 refine WC.region ?_
 refine WL.loud (.nil) (Ld.box rfl rfl) trivial rfl ?_
 rintro _ _ ⟨b_1, rfl, rfl⟩
 refine WL.quiet (Qt.assign rfl) rfl rfl ?_
 refine WL.quiet (Qt.assign rfl) rfl rfl ?_
 refine WL.nil ?_
 refine WX.next ?_
 refine WC.seq ?_
 refine WC.seq ?_
 refine WC.region ?_
 refine WL.quiet (Qt.loadBA 0 rfl ta33 ti33 rfl rfl) rfl rfl ?_
 refine WL.quiet (Qt.move rfl) rfl rfl ?_
 refine WL.quiet (Qt.lenS Tryz.underlying26 rfl) rfl rfl ?_
 refine WL.call (.u 1 rfl (.nil)) (Cl.func cb26 rfl) (treeCheckW (PT.mk 1 0 [lf 0, lf 1]) 2 _ _) trivial rfl ?_
 rintro _ _ ⟨e_1, rfl, rfl, hck_1⟩
 refine WL.quiet (Qt.assign rfl) rfl rfl ?_
 refine WL.nil ?_
 refine WX.next ?_
 refine WC.seq ?_
 refine WC.region ?_
 refine WL.quiet (Qt.move rfl) rfl rfl ?_
 refine WL.quiet (Qt.neq rfl rfl) rfl rfl ?_
 refine WL.nil ?_
 refine WX.next ?_
 refine WC.condD rfl (fun hc_1 => ?_) (fun hc_1 => ?_)
 ·
  exact absurd (hck_1.2 vld17) hc_1
 ·
  refine WC.skip ?_
  refine WX.next ?_
  refine WC.seq ?_
  refine WC.region ?_
  refine WL.quiet (Qt.loadBA 0 rfl ta33 ti33 rfl rfl) rfl rfl ?_
  refine WL.quiet (Qt.move rfl) rfl rfl ?_
  refine WL.call (.u 1 rfl (.u 2 rfl (.nil))) (Cl.func cb121 rfl) (depth17W _ _ _ _) trivial rfl ?_
  rintro _ _ ⟨rfl, rfl⟩
  refine WL.quiet (Qt.assign rfl) rfl rfl ?_
  refine WL.quiet (Qt.assign rfl) rfl rfl ?_
  refine WL.nil ?_
  refine WX.next ?_
  refine WC.ret ?_
  refine WX.ret2 (.nil) rfl rfl rfl ?_
  exact ⟨rfl, rfl⟩

end Go.Proofs.YtolggjmgfijjfaaGreatDoor.Sep

/- A walk, printed by gen.py out of hints. -/
namespace Go.Proofs.YtolggjmgfijjfaaGreatDoor.Sep
open Go
variable {μ : Prop}
theorem putW (l : List Ins) (x : Ins) (nm cm : ByteArray) (CA OA SA A : Option Addr) (no cc oc ns sc c bk : Nat) (nc : Nat) (hl : l.length ≤ 1000000) : Spec μ Tryz.prog 52 #[.pointer (some ⟨bk, 0, none⟩), .agg [.int .i64 x.op, .int .i64 x.sp, .int .i64 x.n, .int .i64 x.arg].toArray] [blk bk 87 [.string nm, .slice CA nc cc, .slice OA no oc, .string cm, .slice SA ns sc, .slice A l.length c], row kIns 49 A c l] fun v Δ => ∃ A1 c1, v = .tuple #[] ∧ Δ = [blk bk 87 [.string nm, .slice CA nc cc, .slice OA no oc, .string cm, .slice SA ns sc, .slice A1 ((l ++ [x]).length) c1], row kIns 49 A1 c1 (l ++ [x])] := by
 refine Spec.of_body (n := 14) Tryz.func52 rfl rfl rfl fun w0 S0 O0 => ?_
 show WC _ _ _ _ _ _ [(0, .pointer (some ⟨bk, 0, none⟩)), (1, .agg [.int .i64 x.op, .int .i64 x.sp, .int .i64 x.n, .int .i64 x.arg].toArray)] [blk bk 87 [.string nm, .slice CA nc cc, .slice OA no oc, .string cm, .slice SA ns sc, .slice A l.length c], row kIns 49 A c l]
 refine WC.seq ?_
 refine WC.region ?_
 refine WL.loud (.nil) (Ld.box rfl rfl) trivial rfl ?_
 rintro _ _ ⟨b_1, rfl, rfl⟩
 refine WL.nil ?_
 refine WX.next ?_
 refine WC.calm (calm_FQ _ _) fun hC => ?_
 refine WC.draw (Γq := [blk b_1 49 [.int .i64 x.op, .int .i64 x.sp, .int .i64 x.n, .int .i64 x.arg], blk bk 87 [.string nm, .slice CA nc cc, .slice OA no oc, .string cm, .slice SA ns sc, .slice A l.length c]]) [0, 1, 2, 3, 4, 5, 6, 7] mixed ?_
 refine WA.named (.take 0 rfl (.take 0 rfl (.nil))) fun sl_1 => ?_
 refine WA.tk 0 (by kernel_rfl) rfl hC (Qt.move rfl) trivial rfl sl_1 ?_
 refine WA.tk 1 (by kernel_rfl) rfl hC (Qt.move rfl) trivial rfl sl_1 ?_
 refine WA.tk 2 (by kernel_rfl) rfl hC (Qt.nilCheck rfl) trivial rfl sl_1 ?_
 refine WA.tk 3 (by kernel_rfl) rfl hC (Qt.fieldAddrB tf87_2 rfl) trivial rfl sl_1 ?_
 refine WA.tk 4 (by kernel_rfl) rfl hC (Qt.loadB 1 rfl ta39 rfl rfl) trivial rfl sl_1 ?_
 refine WA.tk 5 (by kernel_rfl) rfl hC (Qt.loadBA 0 rfl ta49 ti49 rfl rfl) trivial rfl sl_1 ?_
 refine WA.one 6 (by kernel_rfl) ?_
 refine WO.loud rfl (.nil) (Ld.buildSlice (zs := [.int .i64 0, .int .i64 0, .int .i64 0, .int .i64 0]) Tryz.underlying39 ti49 rfl rfl (by kernel_rfl) rfl rfl) trivial rfl (by rintro _ _ ⟨b_2, rfl, rfl⟩; exact ⟨_, (.take 1 rfl (.take 1 rfl (.nil)))⟩) ?_
 rintro _ _ ⟨b_2, rfl, rfl⟩
 refine WA.one 7 (by kernel_rfl) ?_
 refine WO.loud rfl (.take 3 rfl (.take 0 rfl (.nil))) (Ld.append1 (e := kIns) (xs := l) (Ins.mk x.op x.sp x.n x.arg) Tryz.underlying39 ti49 rfl (by decide) (by decide) rfl rfl (by first | omega | (simp; omega)) (fun S w h => rfl)) trivial rfl (by rintro _ _ ⟨A_1, c_1, rfl, rfl⟩; exact ⟨_, (.take 1 rfl (.take 1 rfl (.nil)))⟩) ?_
 rintro _ _ ⟨A_1, c_1, rfl, rfl⟩
 refine WA.phase (K' := [0, 1, 2, 3, 4, 5, 6, 7, 8, 9, 10]) (Γq' := [row kIns 49 A_1 c_1 (l ++ [(Ins.mk x.op x.sp x.n x.arg)]), blk b_1 49 [.int .i64 x.op, .int .i64 x.sp, .int .i64 x.n, .int .i64 x.arg]]) (by kernel_rfl) ?_
 refine WA.named (.take 0 rfl (.take 0 rfl (.nil))) fun sl_2 => ?_
 refine WA.tk 8 (by kernel_rfl) rfl hC (Qt.nilCheck rfl) trivial rfl sl_2 ?_
 refine WA.tk 9 (by kernel_rfl) rfl hC (Qt.fieldAddrB tf87_2 rfl) trivial rfl sl_2 ?_
 refine WA.one 10 (by kernel_rfl) ?_
 refine WO.loud rfl (.take 2 rfl (.nil)) (Ld.store ti39 rfl rfl rfl rfl rfl rfl) trivial rfl (by rintro _ _ rfl; exact ⟨_, (.take 1 rfl (.take 1 rfl (.nil)))⟩) ?_
 rintro _ _ rfl
 refine WA.done (by kernel_rfl) ?_
 refine WX.end0 (.take 0 rfl (.take 0 rfl (.nil))) rfl ?_
 exact ⟨A_1, c_1, rfl, rfl⟩

end Go.Proofs.YtolggjmgfijjfaaGreatDoor.Sep

/- A walk, printed by gen.py out of hints. -/
namespace Go.Proofs.YtolggjmgfijjfaaGreatDoor.Sep
open Go
variable {μ : Prop}
theorem seesW (x : Contact)  : Spec μ Tryz.prog 29 #[.agg [.int .i64 x.kind, .int .i64 x.sp, .int .i64 x.n, .string x.frm, .string x.to].toArray] [] fun v Δ => v = .bool (isEdge x) ∧ Δ = [] := by
 refine Spec.of_body (n := 11) Tryz.func29 rfl rfl rfl fun w0 S0 O0 => ?_
 show WC _ _ _ _ _ _ [(0, .agg [.int .i64 x.kind, .int .i64 x.sp, .int .i64 x.n, .string x.frm, .string x.to].toArray)] []
 refine WC.seq ?_
 refine WC.region ?_
 refine WL.loud (.nil) (Ld.box rfl rfl) trivial rfl ?_
 rintro _ _ ⟨b_1, rfl, rfl⟩
 refine WL.quiet (Qt.assign rfl) rfl rfl ?_
 refine WL.nil ?_
 refine WX.next ?_
 refine WC.cut (fun _ : Unit => [(2, .bool (decide (((x.kind : Int) = 2) ∨ ((x.kind : Int) = 3))))]) (fun _ => [blk b_1 56 [.int .i64 x.kind, .int .i64 x.sp, .int .i64 x.n, .string x.frm, .string x.to]]) (fun _ => True) ?_ ?_
 ·
  refine WC.region ?_
  refine WL.quiet (Qt.fieldAddrB tf56_0 rfl) rfl rfl ?_
  refine WL.quiet (Qt.loadB 0 rfl ta3 rfl rfl) rfl rfl ?_
  refine WL.quiet (Qt.eql rfl rfl) rfl rfl ?_
  refine WL.quiet (Qt.move rfl) rfl rfl ?_
  refine WL.splitD 6 rfl rfl (fun hg_1 => ?_) (fun hg_1 => ?_)
  ·
   refine WL.skipG 3 false true rfl 6 rfl rfl rfl rfl ?_
   refine WL.skipG 3 false true rfl 6 rfl rfl rfl rfl ?_
   refine WL.skipG 3 false true rfl 6 rfl rfl rfl rfl ?_
   refine WL.quiet (Qt.pickT rfl rfl) rfl rfl ?_
   refine WL.quiet (Qt.assign rfl) rfl rfl ?_
   refine WL.nil ?_
   exact WX.cut () trivial ⟨(by rw [show decide (((x.kind : Int) = 2) ∨ ((x.kind : Int) = 3)) = true from by first | (simp [hg_1]; done) | exact decide_eq_decide.2 (by omega) | exact decide_eq_true (by omega) | exact decide_eq_false (by omega) | (simp [hg_1] <;> omega)]; rfl), trivial⟩ (.take 0 rfl (.nil))
  ·
   refine WL.quietG 3 false rfl 6 rfl rfl (Qt.fieldAddrB tf56_0 rfl) rfl ?_
   refine WL.quietG 3 false rfl 6 rfl rfl (Qt.loadB 0 rfl ta3 rfl rfl) rfl ?_
   refine WL.quietG 3 false rfl 6 rfl rfl (Qt.eql rfl rfl) rfl ?_
   refine WL.quiet (Qt.pickF rfl rfl) rfl rfl ?_
   refine WL.quiet (Qt.assign rfl) rfl rfl ?_
   refine WL.nil ?_
   exact WX.cut () trivial ⟨(by rw [show decide (((x.kind : Int) = 2) ∨ ((x.kind : Int) = 3)) = (decide ((x.kind : Int) = 3)) from by first | (simp [hg_1]; done) | exact decide_eq_decide.2 (by omega) | exact decide_eq_true (by omega) | exact decide_eq_false (by omega) | (simp [hg_1] <;> omega)]; rfl), trivial⟩ (.take 0 rfl (.nil))
 ·
  intro _ _
  show WC _ _ _ _ _ _ [(2, .bool (decide (((x.kind : Int) = 2) ∨ ((x.kind : Int) = 3))))] [blk b_1 56 [.int .i64 x.kind, .int .i64 x.sp, .int .i64 x.n, .string x.frm, .string x.to]]
  refine WC.ret ?_
  refine WX.ret1 (.nil) rfl rfl ?_
  exact ⟨rfl, rfl⟩

end Go.Proofs.YtolggjmgfijjfaaGreatDoor.Sep

/- A walk, printed by gen.py out of hints. -/
namespace Go.Proofs.YtolggjmgfijjfaaGreatDoor.Sep
open Go
variable {μ : Prop}
theorem layW_ih (m : Nat) : ∀ (t : PT) (cs : List Contact) (l : List Ins) (nm cm : ByteArray) (CA OA SA A TA : Option Addr) (no cc oc sc c tc bk : Nat), SizeOf.sizeOf t < m → (LayOk cs t) → (KindsOk cs) → (l.length + 4 * t.leaves.length ≤ 1000000) → Spec μ Tryz.prog 30 #[.pointer (some ⟨bk, 0, none⟩), .agg [.int .i64 t.kind, .int .i64 t.n, .slice TA t.kids.length tc].toArray] [blk bk 87 [.string nm, .slice CA cs.length cc, .slice OA no oc, .string cm, .slice SA cs.length sc, .slice A l.length c], row kIns 49 A c l, rd kContact CA cc cs, rd kInt SA sc (slotsL cs), rd kTree TA tc t.kids, cellsAt ⟨0, 0, none⟩ (loadsT.map (Value.int .i64)), cellsAt ⟨1, 0, none⟩ (joinsT.map (Value.int .i64)), cellsAt ⟨2, 0, none⟩ (popsT.map (Value.int .i64))] fun v Δ => ∃ A1 c1, v = .tuple #[] ∧ Δ = [blk bk 87 [.string nm, .slice CA cs.length cc, .slice OA no oc, .string cm, .slice SA cs.length sc, .slice A1 ((l ++ layC cs t).length) c1], row kIns 49 A1 c1 (l ++ layC cs t)] := by
 induction m with
 | zero => exact fun t cs l nm cm CA OA SA A TA no cc oc sc c tc bk h => absurd h (Nat.not_lt_zero _)
 | succ m ih =>
 intro t cs l nm cm CA OA SA A TA no cc oc sc c tc bk hsz hok hkc hl
 refine Spec.of_body (n := 102) Tryz.func30 rfl rfl rfl fun w0 S0 O0 => ?_
 show WC _ _ _ _ _ _ [(0, .pointer (some ⟨bk, 0, none⟩)), (1, .agg [.int .i64 t.kind, .int .i64 t.n, .slice TA t.kids.length tc].toArray)] [blk bk 87 [.string nm, .slice CA cs.length cc, .slice OA no oc, .string cm, .slice SA cs.length sc, .slice A l.length c], row kIns 49 A c l, rd kContact CA cc cs, rd kInt SA sc (slotsL cs), rd kTree TA tc t.kids, cellsAt ⟨0, 0, none⟩ (loadsT.map (Value.int .i64)), cellsAt ⟨1, 0, none⟩ (joinsT.map (Value.int .i64)), cellsAt ⟨2, 0, none⟩ (popsT.map (Value.int .i64))]
 refine WC.learn (Z := Unit) (Δ := fun _ => []) (φ := fun _ => cs.length ≤ cc ∧ cc ≤ 9223372036854775807) 2 rfl (fun S w h => ⟨(), rd_bounds h, nofacts⟩) ?_
 rintro _ ⟨hb_1, hb_2⟩
 refine WC.learn (Z := Unit) (Δ := fun _ => []) (φ := fun _ => (slotsL cs).length ≤ sc ∧ sc ≤ 9223372036854775807) 3 rfl (fun S w h => ⟨(), rd_bounds h, nofacts⟩) ?_
 rintro _ ⟨hb_3, hb_4⟩
 refine WC.learn (Z := Unit) (Δ := fun _ => []) (φ := fun _ => t.kids.length ≤ tc ∧ tc ≤ 9223372036854775807) 4 rfl (fun S w h => ⟨(), rd_bounds h, nofacts⟩) ?_
 rintro _ ⟨hb_5, hb_6⟩
 refine WC.seq ?_
 refine WC.region ?_
 refine WL.loud (.nil) (Ld.box rfl rfl) trivial rfl ?_
 rintro _ _ ⟨b_1, rfl, rfl⟩
 refine WL.nil ?_
 refine WX.next ?_
 refine WC.seq ?_
 refine WC.seq ?_
 refine WC.region ?_
 refine WL.quiet (Qt.fieldAddrB tf33_0 rfl) rfl rfl ?_
 refine WL.quiet (Qt.loadB 0 rfl ta3 rfl rfl) rfl rfl ?_
 refine WL.quiet (Qt.eql rfl rfl) rfl rfl ?_
 refine WL.nil ?_
 refine WX.next ?_
 refine WC.condD rfl (fun hc_1 => ?_) (fun hc_1 => ?_)
 ·
  refine WC.seq ?_
  have hlf := hok.leaf hc_1
  obtain ⟨i, hi⟩ := Int.eq_ofNat_of_zero_le (show 0 ≤ t.n from by omega)
  rw [hi]
  have hil : i < cs.length := by omega
  have hsl : i < (slotsL cs).length := by rw [slotsL_len]; exact hil
  have hk4 := hkc i hil
  have hj_1 : i < cs.length := by omega
  refine WC.learn 3 rfl (rd_at i hj_1 (vContact _)) ?_
  rintro ⟨p_1, ⟨⟩⟩ hA_1
  refine WC.calm (Calm.then (Calm.then (calm_FQ _ _))) fun hC => ?_
  refine WC.draw (Γq := [cellsAt (p_1.add (i * 5)) [.int .i64 (cs[i].kind), .int .i64 (cs[i].sp), .int .i64 (cs[i].n), .string (cs[i].frm), .string (cs[i].to)], blk b_1 33 [.int .i64 t.kind, .int .i64 ((i : Nat) : Int), .slice TA t.kids.length tc], blk bk 87 [.string nm, .slice CA cs.length cc, .slice OA no oc, .string cm, .slice SA cs.length sc, .slice A l.length c], row kIns 49 A c l, rd kContact CA cc cs, rd kInt SA sc (slotsL cs), rd kTree TA tc t.kids, cellsAt ⟨0, 0, none⟩ (loadsT.map (Value.int .i64)), cellsAt ⟨1, 0, none⟩ (joinsT.map (Value.int .i64)), cellsAt ⟨2, 0, none⟩ (popsT.map (Value.int .i64))]) [0, 1, 2, 3, 4, 5, 6, 7, 8, 9] mixed ?_
  refine WA.named (.u 0 rfl (.take 1 rfl (.take 1 rfl (.take 1 rfl (.u 1 rfl (.u 2 rfl (.u 3 rfl (.u 4 rfl (.u 5 rfl (.u 6 rfl (.nil))))))))))) fun sl_1 => ?_
  refine WA.tk 0 (by kernel_rfl) rfl hC (Qt.move rfl) trivial rfl sl_1 ?_
  refine WA.tk 1 (by kernel_rfl) rfl hC (Qt.nilCheck rfl) trivial rfl sl_1 ?_
  refine WA.tk 2 (by kernel_rfl) rfl hC (Qt.fieldAddrB tf87_0 rfl) trivial rfl sl_1 ?_
  refine WA.tk 3 (by kernel_rfl) rfl hC (Qt.fieldAddrB tf25_1 rfl) trivial rfl sl_1 ?_
  refine WA.tk 4 (by kernel_rfl) rfl hC (Qt.loadB 2 rfl ta22 rfl rfl) trivial rfl sl_1 ?_
  refine WA.tk 5 (by kernel_rfl) rfl hC (Qt.fieldAddrB tf33_1 rfl) trivial rfl sl_1 ?_
  refine WA.tk 6 (by kernel_rfl) rfl hC (Qt.loadB 1 rfl ta3 rfl rfl) trivial rfl sl_1 ?_
  refine WA.tk 7 (by kernel_rfl) rfl hC (Qt.indexAddrE i hA_1 Tryz.underlying22 ti56 rfl rfl (by first | assumption | omega)) trivial rfl sl_1 ?_
  refine WA.tk 8 (by kernel_rfl) rfl hC (Qt.loadCA (p := p_1.add (i * 5)) (o := 0) 0 rfl ta56 ti56 rfl rfl) trivial rfl sl_1 ?_
  refine WA.one 9 (by kernel_rfl) ?_
  refine WO.loud rfl (.nil) (Ld.alloc ti56 rfl) trivial rfl (by rintro _ _ ⟨b_2, rfl, rfl⟩; exact ⟨_, (.u 1 rfl (.take 2 rfl (.take 2 rfl (.take 2 rfl (.u 2 rfl (.u 3 rfl (.u 4 rfl (.u 5 rfl (.u 6 rfl (.u 7 rfl (.nil)))))))))))⟩) ?_
  rintro _ _ ⟨b_2, rfl, rfl⟩
  refine WA.phase (K' := [0, 1, 2, 3, 4, 5, 6, 7, 8, 9, 10]) (Γq' := [cellsAt (p_1.add (i * 5)) [.int .i64 (cs[i].kind), .int .i64 (cs[i].sp), .int .i64 (cs[i].n), .string (cs[i].frm), .string (cs[i].to)], blk b_1 33 [.int .i64 t.kind, .int .i64 ((i : Nat) : Int), .slice TA t.kids.length tc], blk bk 87 [.string nm, .slice CA cs.length cc, .slice OA no oc, .string cm, .slice SA cs.length sc, .slice A l.length c], row kIns 49 A c l, rd kContact CA cc cs, rd kInt SA sc (slotsL cs), rd kTree TA tc t.kids, cellsAt ⟨0, 0, none⟩ (loadsT.map (Value.int .i64)), cellsAt ⟨1, 0, none⟩ (joinsT.map (Value.int .i64)), cellsAt ⟨2, 0, none⟩ (popsT.map (Value.int .i64))]) (by kernel_rfl) ?_
  refine WA.one 10 (by kernel_rfl) ?_
  refine WO.loud rfl (.take 0 rfl (.nil)) (Ld.store ti56 rfl rfl rfl rfl rfl rfl) trivial rfl (by rintro _ _ rfl; exact ⟨_, (.u 1 rfl (.take 2 rfl (.take 2 rfl (.take 2 rfl (.u 2 rfl (.u 3 rfl (.u 4 rfl (.u 5 rfl (.u 6 rfl (.u 7 rfl (.nil)))))))))))⟩) ?_
  rintro _ _ rfl
  refine WA.done (by kernel_rfl) ?_
  refine WX.next ?_
  refine WC.seq ?_
  obtain ⟨j, hj⟩ := Int.eq_ofNat_of_zero_le (show 0 ≤ cs[i].kind from by omega)
  rw [hj]
  have hj_2 : i < (slotsL cs).length := hsl
  refine WC.learn 6 rfl (rd_at i hj_2 (vInt _)) ?_
  rintro ⟨p_2, ⟨⟩⟩ hA_2
  refine WC.calm (Calm.then (Calm.then (calm_FQ _ _))) fun hC => ?_
  refine WC.draw (Γq := [cellsAt (p_2.add (i * 1)) [.int .i64 ((slotsL cs)[i])], blk b_2 56 [.int .i64 ((j : Nat) : Int), .int .i64 (cs[i].sp), .int .i64 (cs[i].n), .string (cs[i].frm), .string (cs[i].to)], cellsAt (p_1.add (i * 5)) [.int .i64 ((j : Nat) : Int), .int .i64 (cs[i].sp), .int .i64 (cs[i].n), .string (cs[i].frm), .string (cs[i].to)], blk b_1 33 [.int .i64 t.kind, .int .i64 ((i : Nat) : Int), .slice TA t.kids.length tc], rd kContact CA cc cs, rd kInt SA sc (slotsL cs), rd kTree TA tc t.kids, cellsAt ⟨0, 0, none⟩ (loadsT.map (Value.int .i64)), cellsAt ⟨1, 0, none⟩ (joinsT.map (Value.int .i64)), cellsAt ⟨2, 0, none⟩ (popsT.map (Value.int .i64))]) [0, 1, 2, 3, 4, 5, 6, 7, 8, 9, 10, 11, 12, 13, 14, 15, 16] mixed ?_
  refine WA.named (.u 0 rfl (.take 1 rfl (.u 1 rfl (.take 2 rfl (.u 4 rfl (.u 5 rfl (.u 6 rfl (.u 7 rfl (.u 8 rfl (.u 9 rfl (.nil))))))))))) fun sl_2 => ?_
  refine WA.tk 0 (by kernel_rfl) rfl hC (Qt.move rfl) trivial rfl sl_2 ?_
  refine WA.tk 1 (by kernel_rfl) rfl hC (Qt.fieldAddrB tf56_0 rfl) trivial rfl sl_2 ?_
  refine WA.tk 2 (by kernel_rfl) rfl hC (Qt.loadB 1 rfl ta3 rfl rfl) trivial rfl sl_2 ?_
  refine WA.tk 3 (by kernel_rfl) rfl hC (Qt.indexArr j Tryz.underlying122 ti3 rfl rfl (by omega)) trivial rfl sl_2 ?_
  refine WA.tk 4 (by kernel_rfl) rfl hC (Qt.loadTab1 7 j rfl (by show j < 4; omega) ta3 rfl) trivial rfl sl_2 ?_
  refine WA.tk 5 (by kernel_rfl) rfl hC (Qt.fieldAddrB tf56_1 rfl) trivial rfl sl_2 ?_
  refine WA.tk 6 (by kernel_rfl) rfl hC (Qt.loadBA 1 rfl ta47 ti47 rfl rfl) trivial rfl sl_2 ?_
  refine WA.tk 7 (by kernel_rfl) rfl hC (Qt.move rfl) trivial rfl sl_2 ?_
  refine WA.tk 8 (by kernel_rfl) rfl hC (Qt.nilCheck rfl) trivial rfl sl_2 ?_
  refine WA.tk 9 (by kernel_rfl) rfl hC (Qt.fieldAddrB tf87_1 rfl) trivial rfl sl_2 ?_
  refine WA.tk 11 (by kernel_rfl) rfl hC (Qt.fieldAddrB tf33_1 rfl) trivial rfl sl_2 ?_
  refine WA.tk 12 (by kernel_rfl) rfl hC (Qt.loadB 3 rfl ta3 rfl rfl) trivial rfl sl_2 ?_
  refine WA.one 10 (by kernel_rfl) ?_
  refine WO.quiet rfl (Qt.loadB 4 rfl ta85 rfl rfl) trivial rfl (.u 0 rfl (.take 1 rfl (.u 1 rfl (.take 2 rfl (.u 4 rfl (.u 5 rfl (.u 6 rfl (.u 7 rfl (.u 8 rfl (.u 9 rfl (.nil))))))))))) ?_
  refine WA.tk 13 (by kernel_rfl) rfl hC (Qt.indexAddrE i hA_2 Tryz.underlying85 ti3 rfl rfl (by first | assumption | omega)) trivial rfl sl_2 ?_
  refine WA.tk 14 (by kernel_rfl) rfl hC (Qt.loadC (p := p_2.add (i * 1)) (o := 0) 0 rfl ta3 rfl rfl) trivial rfl sl_2 ?_
  refine WA.tk 15 (by kernel_rfl) rfl hC (Qt.build tp49 ti49 rfl rfl rfl) trivial rfl sl_2 ?_
  refine WA.one 16 (by kernel_rfl) ?_
  refine WO.call rfl (.take 4 rfl (.take 4 rfl (.nil))) (Cl.func cb52 rfl) (putW l (Ins.mk (loadsT.getD j 0) (cs[i].sp) (cs[i].n) ((slotsL cs)[i])) _ _ _ _ _ _ _ _ _ _ _ _ _ _ (by omega)) trivial rfl (by rintro _ _ ⟨A_1, c_1, rfl, rfl⟩; exact ⟨_, (.u 2 rfl (.take 3 rfl (.u 3 rfl (.take 4 rfl (.u 4 rfl (.u 5 rfl (.u 6 rfl (.u 7 rfl (.u 8 rfl (.u 9 rfl (.nil)))))))))))⟩) ?_
  rintro _ _ ⟨A_1, c_1, rfl, rfl⟩
  refine WA.done (by kernel_rfl) ?_
  refine WX.next ?_
  refine WC.ret ?_
  refine WX.pass_ret ?_
  refine WX.ret0 (.take 0 rfl (.take 0 rfl (.nil))) rfl ?_
  rw [layC_leaf cs t hc_1, hi, Int.toNat_natCast, loadI_eq hil hj (by omega) hsl]
  exact ⟨A_1, c_1, rfl, rfl⟩
 ·
  refine WC.skip ?_
  refine WX.next ?_
  refine WC.seq ?_
  have hsh := hok.shape hc_1
  obtain ⟨q, hq⟩ := Int.eq_ofNat_of_zero_le (show 0 ≤ t.kind from by omega)
  rw [hq]
  have hq12 : q = 1 ∨ q = 2 := by omega
  have hk0 : 0 < t.kids.length := by omega
  have hld : (t.kids.drop 1).length = t.kids.length - 1 := List.length_drop
  refine WC.region ?_
  refine WL.quiet (Qt.move rfl) rfl rfl ?_
  refine WL.quiet (Qt.fieldAddrB tf33_2 rfl) rfl rfl ?_
  refine WL.quiet (Qt.loadB 0 rfl ta31 rfl rfl) rfl rfl ?_
  have hj_3 : 0 < t.kids.length := by omega
  refine WL.learn 5 rfl (rd_at 0 hj_3 (vTree _)) ?_
  rintro ⟨p_3, ⟨A_2, c_2⟩⟩ hA_3
  refine WL.quiet (Qt.indexAddrE 0 hA_3 Tryz.underlying31 ti33 rfl rfl (by first | assumption | omega)) rfl rfl ?_
  refine WL.quiet (Qt.loadCA (p := p_3.add (0 * 3)) (o := 0) 0 rfl ta33 ti33 rfl rfl) rfl rfl ?_
  refine WL.call (.take 3 rfl (.take 3 rfl (.u 3 rfl (.u 4 rfl (.u 1 rfl (.u 6 rfl (.u 7 rfl (.u 8 rfl (.nil))))))))) (Cl.func cb30 rfl) (ih (t.kids[0]) cs l _ _ _ _ _ _ _ _ _ _ _ _ _ _ (by have := kid_size t 0 hk0; omega) (hok.kid0 hc_1 hk0) hkc (by have := lay_room0 hok hc_1 hk0; omega)) trivial rfl ?_
  rintro _ _ ⟨A_3, c_3, rfl, rfl⟩
  refine WL.nil ?_
  refine WX.next ?_
  refine WC.seq ?_
  refine WC.region ?_
  refine WL.quiet (Qt.fieldAddrB tf33_2 rfl) rfl rfl ?_
  refine WL.quiet (Qt.loadB 4 rfl ta31 rfl rfl) rfl rfl ?_
  refine WL.learn (Z := Unit) 7 rfl (rd_drop 1) ?_
  rintro _ _
  refine WL.quiet (Qt.cutLowRd 8 rfl Tryz.underlying31 ti33 rfl rfl (by show 1 ≤ t.kids.length; omega)) rfl rfl ?_
  refine WL.quiet (Qt.lenS Tryz.underlying31 rfl) rfl rfl ?_
  refine WL.quiet (Qt.move rfl) rfl rfl ?_
  refine WL.nil ?_
  refine WX.next ?_
  refine WC.block ?_
  refine WC.loop (fun w0 : Nat × (Option Addr) × Nat × (List Ins) => [(0, .pointer (some ⟨bk, 0, none⟩)), (3, .pointer (some ⟨b_1, 0, none⟩)), (45, .slice (cutA tc 1 TA 3) ((t.kids.drop 1).length) (tc - 1)), (46, .int .i64 (((t.kids.drop 1).length : Nat) : Int)), (47, .int .i64 ((w0.1 : Nat) : Int))]) (fun w0 => [rd kTree (cutA tc 1 TA 3) (tc - 1) (t.kids.drop 1), blk bk 87 [.string nm, .slice CA cs.length cc, .slice OA no oc, .string cm, .slice SA cs.length sc, .slice w0.2.1 w0.2.2.2.length w0.2.2.1], row kIns 49 w0.2.1 w0.2.2.1 w0.2.2.2, cellsAt (p_3.add (0 * 3)) [.int .i64 (t.kids[0].kind), .int .i64 (t.kids[0].n), .slice A_2 (t.kids[0].kids.length) c_2], rd kTree A_2 c_2 (t.kids[0].kids), blk b_1 33 [.int .i64 ((q : Nat) : Int), .int .i64 t.n, .slice TA t.kids.length tc], rd kContact CA cc cs, rd kInt SA sc (slotsL cs), rd kTree TA tc t.kids, cellsAt ⟨0, 0, none⟩ (loadsT.map (Value.int .i64)), cellsAt ⟨1, 0, none⟩ (joinsT.map (Value.int .i64)), cellsAt ⟨2, 0, none⟩ (popsT.map (Value.int .i64))]) (fun w0 => w0.1 ≤ (t.kids.drop 1).length ∧ w0.2.2.2 = l ++ layC cs t.kids[0] ++ layK cs t.kind ((t.kids.drop 1).take w0.1)) (fun w0 => (t.kids.drop 1).length - w0.1) (0, A_3, c_3, (l ++ layC cs (t.kids[0]))) ⟨Nat.zero_le _, by simp [layK]⟩ ⟨rfl, rfl, rfl, rfl, rfl, trivial⟩ (.u 0 rfl (.take 1 rfl (.take 1 rfl (.u 1 rfl (.u 2 rfl (.take 3 rfl (.u 3 rfl (.u 4 rfl (.u 5 rfl (.u 6 rfl (.u 7 rfl (.u 8 rfl (.nil))))))))))))) ?_
  rintro ⟨k, A1, c1, acc⟩ ⟨hk, hacc⟩
  try dsimp only at hk hacc
  show WC _ _ _ _ _ _ [(0, .pointer (some ⟨bk, 0, none⟩)), (3, .pointer (some ⟨b_1, 0, none⟩)), (45, .slice (cutA tc 1 TA 3) ((t.kids.drop 1).length) (tc - 1)), (46, .int .i64 (((t.kids.drop 1).length : Nat) : Int)), (47, .int .i64 ((k : Nat) : Int))] [rd kTree (cutA tc 1 TA 3) (tc - 1) (t.kids.drop 1), blk bk 87 [.string nm, .slice CA cs.length cc, .slice OA no oc, .string cm, .slice SA cs.length sc, .slice A1 acc.length c1], row kIns 49 A1 c1 acc, cellsAt (p_3.add (0 * 3)) [.int .i64 (t.kids[0].kind), .int .i64 (t.kids[0].n), .slice A_2 (t.kids[0].kids.length) c_2], rd kTree A_2 c_2 (t.kids[0].kids), blk b_1 33 [.int .i64 ((q : Nat) : Int), .int .i64 t.n, .slice TA t.kids.length tc], rd kContact CA cc cs, rd kInt SA sc (slotsL cs), rd kTree TA tc t.kids, cellsAt ⟨0, 0, none⟩ (loadsT.map (Value.int .i64)), cellsAt ⟨1, 0, none⟩ (joinsT.map (Value.int .i64)), cellsAt ⟨2, 0, none⟩ (popsT.map (Value.int .i64))]
  refine WC.seq ?_
  refine WC.region ?_
  refine WL.quiet (Qt.lss rfl rfl) rfl rfl ?_
  refine WL.nil ?_
  refine WX.next ?_
  refine WC.seq ?_
  refine WC.condD rfl (fun hc_2 => ?_) (fun hc_2 => ?_)
  ·
   refine WC.skip ?_
   refine WX.next ?_
   refine WC.seq ?_
   refine WC.block ?_
   refine WC.seq ?_
   refine WC.region ?_
   have hj_4 : k < (t.kids.drop 1).length := by omega
   refine WL.learn 0 rfl (rd_at k hj_4 (vTree _)) ?_
   rintro ⟨p_4, ⟨A_4, c_4⟩⟩ hA_4
   refine WL.quiet (Qt.indexAddrE k hA_4 Tryz.underlying31 ti33 rfl rfl (by first | assumption | omega)) rfl rfl ?_
   refine WL.quiet (Qt.loadCA (p := p_4.add (k * 3)) (o := 0) 0 rfl ta33 ti33 rfl rfl) rfl rfl ?_
   refine WL.loud (.nil) (Ld.alloc ti33 rfl) trivial rfl ?_
   rintro _ _ ⟨b_3, rfl, rfl⟩
   refine WL.loud (.take 0 rfl (.nil)) (Ld.store ti33 rfl rfl rfl rfl rfl rfl) trivial rfl ?_
   rintro _ _ rfl
   refine WL.nil ?_
   refine WX.next ?_
   refine WC.seq ?_
   rcases Decidable.em ((t.kids.drop 1)[k].kind = 0) with hx0 | hx0
   ·
    have hjk : k < (t.kids.drop 1).length := by omega
    have hokx := hok.kidD hc_1 hjk
    have hroom := lay_room hok hc_1 hk0 hjk t.kind
    have hal : acc.length = l.length + (layC cs t.kids[0]).length + (layK cs t.kind ((t.kids.drop 1).take k)).length := by rw [hacc]; simp only [List.length_append]
    have hlx := layC_len _ hokx.1 hokx.2
    have hlf := hokx.leaf hx0
    obtain ⟨i, hi⟩ := Int.eq_ofNat_of_zero_le (show 0 ≤ (t.kids.drop 1)[k].n from by omega)
    rw [hi]
    have hil : i < cs.length := by omega
    have hk4 := hkc i hil
    refine WC.seq ?_
    have hj_5 : i < cs.length := by omega
    refine WC.learn 9 rfl (rd_at i hj_5 (vContact _)) ?_
    rintro ⟨p_5, ⟨⟩⟩ hA_5
    refine WC.calm (Calm.then (Calm.then (Calm.inBlock (Calm.then (Calm.then (Calm.inBlock (calm_FQ _ _))))))) fun hC => ?_
    refine WC.draw (Γq := [cellsAt (p_5.add (i * 5)) [.int .i64 (cs[i].kind), .int .i64 (cs[i].sp), .int .i64 (cs[i].n), .string (cs[i].frm), .string (cs[i].to)], blk b_3 33 [.int .i64 ((t.kids.drop 1)[k].kind), .int .i64 ((i : Nat) : Int), .slice A_4 ((t.kids.drop 1)[k].kids.length) c_4], cellsAt (p_4.add (k * 3)) [.int .i64 ((t.kids.drop 1)[k].kind), .int .i64 ((i : Nat) : Int), .slice A_4 ((t.kids.drop 1)[k].kids.length) c_4], rd kTree A_4 c_4 ((t.kids.drop 1)[k].kids), rd kTree (cutA tc 1 TA 3) (tc - 1) (t.kids.drop 1), blk bk 87 [.string nm, .slice CA cs.length cc, .slice OA no oc, .string cm, .slice SA cs.length sc, .slice A1 acc.length c1], row kIns 49 A1 c1 acc, cellsAt (p_3.add (0 * 3)) [.int .i64 (t.kids[0].kind), .int .i64 (t.kids[0].n), .slice A_2 (t.kids[0].kids.length) c_2], rd kTree A_2 c_2 (t.kids[0].kids), blk b_1 33 [.int .i64 ((q : Nat) : Int), .int .i64 t.n, .slice TA t.kids.length tc], rd kContact CA cc cs, rd kInt SA sc (slotsL cs), rd kTree TA tc t.kids, cellsAt ⟨0, 0, none⟩ (loadsT.map (Value.int .i64)), cellsAt ⟨1, 0, none⟩ (joinsT.map (Value.int .i64)), cellsAt ⟨2, 0, none⟩ (popsT.map (Value.int .i64))]) [0, 1, 2, 3, 4, 5, 6, 7, 8, 9, 10, 11, 12, 13, 14, 15] mixed ?_
    refine WA.named (.u 0 rfl (.take 1 rfl (.u 1 rfl (.u 2 rfl (.u 3 rfl (.take 4 rfl (.take 4 rfl (.u 4 rfl (.u 5 rfl (.take 6 rfl (.u 6 rfl (.u 7 rfl (.u 8 rfl (.u 9 rfl (.u 10 rfl (.u 11 rfl (.nil))))))))))))))))) fun sl_3 => ?_
    refine WA.tk 0 (by kernel_rfl) rfl hC (Qt.fieldAddrB tf33_0 rfl) trivial rfl sl_3 ?_
    refine WA.tk 1 (by kernel_rfl) rfl hC (Qt.loadB 1 rfl ta3 rfl rfl) trivial rfl sl_3 ?_
    refine WA.tk 2 (by kernel_rfl) rfl hC (Qt.to (Qt.eql rfl rfl) (congrArg Value.bool (decide_eq_true hx0))) trivial rfl sl_3 ?_
    refine WA.tk 3 (by kernel_rfl) rfl hC (Qt.move rfl) trivial rfl sl_3 ?_
    refine WA.tk 4 (by kernel_rfl) rfl hC (Qt.move rfl) ⟨54, rfl, rfl⟩ rfl sl_3 ?_
    refine WA.tk 5 (by kernel_rfl) rfl hC (Qt.nilCheck rfl) ⟨54, rfl, rfl⟩ rfl sl_3 ?_
    refine WA.tk 6 (by kernel_rfl) rfl hC (Qt.fieldAddrB tf87_0 rfl) ⟨54, rfl, rfl⟩ rfl sl_3 ?_
    refine WA.tk 7 (by kernel_rfl) rfl hC (Qt.fieldAddrB tf25_1 rfl) ⟨54, rfl, rfl⟩ rfl sl_3 ?_
    refine WA.tk 8 (by kernel_rfl) rfl hC (Qt.loadB 5 rfl ta22 rfl rfl) ⟨54, rfl, rfl⟩ rfl sl_3 ?_
    refine WA.tk 9 (by kernel_rfl) rfl hC (Qt.fieldAddrB tf33_1 rfl) ⟨54, rfl, rfl⟩ rfl sl_3 ?_
    refine WA.tk 10 (by kernel_rfl) rfl hC (Qt.loadB 1 rfl ta3 rfl rfl) ⟨54, rfl, rfl⟩ rfl sl_3 ?_
    refine WA.tk 11 (by kernel_rfl) rfl hC (Qt.indexAddrE i hA_5 Tryz.underlying22 ti56 rfl rfl (by first | assumption | omega)) ⟨54, rfl, rfl⟩ rfl sl_3 ?_
    refine WA.tk 12 (by kernel_rfl) rfl hC (Qt.loadCA (p := p_5.add (i * 5)) (o := 0) 0 rfl ta56 ti56 rfl rfl) ⟨54, rfl, rfl⟩ rfl sl_3 ?_
    refine WA.one 13 (by kernel_rfl) ?_
    refine WO.call rfl (.nil) (Cl.func cb29 rfl) (seesW (cs[i])) ⟨54, rfl, rfl⟩ rfl (by rintro _ _ ⟨rfl, rfl⟩; exact ⟨_, (.u 0 rfl (.take 1 rfl (.u 1 rfl (.u 2 rfl (.u 3 rfl (.take 4 rfl (.take 4 rfl (.u 4 rfl (.u 5 rfl (.take 6 rfl (.u 6 rfl (.u 7 rfl (.u 8 rfl (.u 9 rfl (.u 10 rfl (.u 11 rfl (.nil)))))))))))))))))⟩) ?_
    rintro _ _ ⟨rfl, rfl⟩
    refine WA.tk 14 (by kernel_rfl) rfl hC (Qt.not rfl) ⟨54, rfl, rfl⟩ rfl sl_3 ?_
    refine WA.tk 15 (by kernel_rfl) rfl hC (Qt.pickT rfl rfl) trivial rfl sl_3 ?_
    refine WA.done (by kernel_rfl) ?_
    refine WX.next ?_
    refine WC.cond rfl (fun hc_3 => ?_) (fun hc_3 => ?_)
    ·
     refine WC.seq ?_
     refine WC.calm (Calm.then (Calm.then (Calm.inBlock (Calm.then (Calm.then (Calm.inBlock (calm_FQ _ _))))))) fun hC => ?_
     refine WC.draw (Γq := [cellsAt (p_5.add (i * 5)) [.int .i64 (cs[i].kind), .int .i64 (cs[i].sp), .int .i64 (cs[i].n), .string (cs[i].frm), .string (cs[i].to)], blk b_3 33 [.int .i64 ((t.kids.drop 1)[k].kind), .int .i64 ((i : Nat) : Int), .slice A_4 ((t.kids.drop 1)[k].kids.length) c_4], cellsAt (p_4.add (k * 3)) [.int .i64 ((t.kids.drop 1)[k].kind), .int .i64 ((i : Nat) : Int), .slice A_4 ((t.kids.drop 1)[k].kids.length) c_4], rd kTree A_4 c_4 ((t.kids.drop 1)[k].kids), rd kTree (cutA tc 1 TA 3) (tc - 1) (t.kids.drop 1), blk bk 87 [.string nm, .slice CA cs.length cc, .slice OA no oc, .string cm, .slice SA cs.length sc, .slice A1 acc.length c1], row kIns 49 A1 c1 acc, cellsAt (p_3.add (0 * 3)) [.int .i64 (t.kids[0].kind), .int .i64 (t.kids[0].n), .slice A_2 (t.kids[0].kids.length) c_2], rd kTree A_2 c_2 (t.kids[0].kids), blk b_1 33 [.int .i64 ((q : Nat) : Int), .int .i64 t.n, .slice TA t.kids.length tc], rd kContact CA cc cs, rd kInt SA sc (slotsL cs), rd kTree TA tc t.kids, cellsAt ⟨0, 0, none⟩ (loadsT.map (Value.int .i64)), cellsAt ⟨1, 0, none⟩ (joinsT.map (Value.int .i64)), cellsAt ⟨2, 0, none⟩ (popsT.map (Value.int .i64))]) [0, 1, 2, 3, 4, 5, 6, 7, 8, 9] mixed ?_
     refine WA.named (.u 0 rfl (.take 1 rfl (.u 1 rfl (.u 2 rfl (.u 3 rfl (.take 4 rfl (.take 4 rfl (.u 4 rfl (.u 5 rfl (.take 6 rfl (.u 6 rfl (.u 7 rfl (.u 8 rfl (.u 9 rfl (.u 10 rfl (.u 11 rfl (.nil))))))))))))))))) fun sl_4 => ?_
     refine WA.tk 0 (by kernel_rfl) rfl hC (Qt.move rfl) trivial rfl sl_4 ?_
     refine WA.tk 1 (by kernel_rfl) rfl hC (Qt.nilCheck rfl) trivial rfl sl_4 ?_
     refine WA.tk 2 (by kernel_rfl) rfl hC (Qt.fieldAddrB tf87_0 rfl) trivial rfl sl_4 ?_
     refine WA.tk 3 (by kernel_rfl) rfl hC (Qt.fieldAddrB tf25_1 rfl) trivial rfl sl_4 ?_
     refine WA.tk 4 (by kernel_rfl) rfl hC (Qt.loadB 5 rfl ta22 rfl rfl) trivial rfl sl_4 ?_
     refine WA.tk 5 (by kernel_rfl) rfl hC (Qt.fieldAddrB tf33_1 rfl) trivial rfl sl_4 ?_
     refine WA.tk 6 (by kernel_rfl) rfl hC (Qt.loadB 1 rfl ta3 rfl rfl) trivial rfl sl_4 ?_
     refine WA.tk 7 (by kernel_rfl) rfl hC (Qt.indexAddrE i hA_5 Tryz.underlying22 ti56 rfl rfl (by first | assumption | omega)) trivial rfl sl_4 ?_
     refine WA.tk 8 (by kernel_rfl) rfl hC (Qt.loadCA (p := p_5.add (i * 5)) (o := 0) 0 rfl ta56 ti56 rfl rfl) trivial rfl sl_4 ?_
     refine WA.one 9 (by kernel_rfl) ?_
     refine WO.loud rfl (.nil) (Ld.alloc ti56 rfl) trivial rfl (by rintro _ _ ⟨b_4, rfl, rfl⟩; exact ⟨_, (.u 1 rfl (.take 2 rfl (.u 2 rfl (.u 3 rfl (.u 4 rfl (.take 5 rfl (.take 5 rfl (.u 5 rfl (.u 6 rfl (.take 7 rfl (.u 7 rfl (.u 8 rfl (.u 9 rfl (.u 10 rfl (.u 11 rfl (.u 12 rfl (.nil)))))))))))))))))⟩) ?_
     rintro _ _ ⟨b_4, rfl, rfl⟩
     refine WA.phase (K' := [0, 1, 2, 3, 4, 5, 6, 7, 8, 9, 10]) (Γq' := [cellsAt (p_5.add (i * 5)) [.int .i64 (cs[i].kind), .int .i64 (cs[i].sp), .int .i64 (cs[i].n), .string (cs[i].frm), .string (cs[i].to)], blk b_3 33 [.int .i64 ((t.kids.drop 1)[k].kind), .int .i64 ((i : Nat) : Int), .slice A_4 ((t.kids.drop 1)[k].kids.length) c_4], cellsAt (p_4.add (k * 3)) [.int .i64 ((t.kids.drop 1)[k].kind), .int .i64 ((i : Nat) : Int), .slice A_4 ((t.kids.drop 1)[k].kids.length) c_4], rd kTree A_4 c_4 ((t.kids.drop 1)[k].kids), rd kTree (cutA tc 1 TA 3) (tc - 1) (t.kids.drop 1), blk bk 87 [.string nm, .slice CA cs.length cc, .slice OA no oc, .string cm, .slice SA cs.length sc, .slice A1 acc.length c1], row kIns 49 A1 c1 acc, cellsAt (p_3.add (0 * 3)) [.int .i64 (t.kids[0].kind), .int .i64 (t.kids[0].n), .slice A_2 (t.kids[0].kids.length) c_2], rd kTree A_2 c_2 (t.kids[0].kids), blk b_1 33 [.int .i64 ((q : Nat) : Int), .int .i64 t.n, .slice TA t.kids.length tc], rd kContact CA cc cs, rd kInt SA sc (slotsL cs), rd kTree TA tc t.kids, cellsAt ⟨0, 0, none⟩ (loadsT.map (Value.int .i64)), cellsAt ⟨1, 0, none⟩ (joinsT.map (Value.int .i64)), cellsAt ⟨2, 0, none⟩ (popsT.map (Value.int .i64))]) (by kernel_rfl) ?_
     refine WA.one 10 (by kernel_rfl) ?_
     refine WO.loud rfl (.take 0 rfl (.nil)) (Ld.store ti56 rfl rfl rfl rfl rfl rfl) trivial rfl (by rintro _ _ rfl; exact ⟨_, (.u 1 rfl (.take 2 rfl (.u 2 rfl (.u 3 rfl (.u 4 rfl (.take 5 rfl (.take 5 rfl (.u 5 rfl (.u 6 rfl (.take 7 rfl (.u 7 rfl (.u 8 rfl (.u 9 rfl (.u 10 rfl (.u 11 rfl (.u 12 rfl (.nil)))))))))))))))))⟩) ?_
     rintro _ _ rfl
     refine WA.done (by kernel_rfl) ?_
     refine WX.next ?_
     refine WC.seq ?_
     have hne : isEdge cs[i] = false := by simpa using hc_3
     have hk2 := noEdge_kind hkc hil hne
     obtain ⟨j, hj⟩ := Int.eq_ofNat_of_zero_le (show 0 ≤ cs[i].kind from by omega)
     rw [hj]
     refine WC.calm (Calm.then (Calm.then (Calm.inBlock (Calm.then (Calm.then (Calm.inBlock (calm_FQ _ _))))))) fun hC => ?_
     refine WC.draw (Γq := [blk b_4 56 [.int .i64 ((j : Nat) : Int), .int .i64 (cs[i].sp), .int .i64 (cs[i].n), .string (cs[i].frm), .string (cs[i].to)], cellsAt (p_5.add (i * 5)) [.int .i64 ((j : Nat) : Int), .int .i64 (cs[i].sp), .int .i64 (cs[i].n), .string (cs[i].frm), .string (cs[i].to)], blk b_3 33 [.int .i64 ((t.kids.drop 1)[k].kind), .int .i64 ((i : Nat) : Int), .slice A_4 ((t.kids.drop 1)[k].kids.length) c_4], cellsAt (p_4.add (k * 3)) [.int .i64 ((t.kids.drop 1)[k].kind), .int .i64 ((i : Nat) : Int), .slice A_4 ((t.kids.drop 1)[k].kids.length) c_4], rd kTree A_4 c_4 ((t.kids.drop 1)[k].kids), rd kTree (cutA tc 1 TA 3) (tc - 1) (t.kids.drop 1), cellsAt (p_3.add (0 * 3)) [.int .i64 (t.kids[0].kind), .int .i64 (t.kids[0].n), .slice A_2 (t.kids[0].kids.length) c_2], rd kTree A_2 c_2 (t.kids[0].kids), blk b_1 33 [.int .i64 ((q : Nat) : Int), .int .i64 t.n, .slice TA t.kids.length tc], rd kContact CA cc cs, rd kInt SA sc (slotsL cs), rd kTree TA tc t.kids, cellsAt ⟨0, 0, none⟩ (loadsT.map (Value.int .i64)), cellsAt ⟨1, 0, none⟩ (joinsT.map (Value.int .i64)), cellsAt ⟨2, 0, none⟩ (popsT.map (Value.int .i64))]) [0, 1, 2, 3, 4, 5, 6, 7, 8, 9, 10, 11] mixed ?_
     refine WA.named (.take 0 rfl (.u 0 rfl (.take 1 rfl (.u 1 rfl (.u 2 rfl (.u 3 rfl (.u 6 rfl (.u 7 rfl (.take 8 rfl (.u 8 rfl (.u 9 rfl (.u 10 rfl (.u 11 rfl (.u 12 rfl (.u 13 rfl (.nil)))))))))))))))) fun sl_5 => ?_
     refine WA.tk 0 (by kernel_rfl) rfl hC (Qt.move rfl) trivial rfl sl_5 ?_
     refine WA.tk 1 (by kernel_rfl) rfl hC (Qt.fieldAddrB tf33_0 rfl) trivial rfl sl_5 ?_
     refine WA.tk 2 (by kernel_rfl) rfl hC (Qt.loadB 8 rfl ta3 rfl rfl) trivial rfl sl_5 ?_
     refine WA.tk 3 (by kernel_rfl) rfl hC (Qt.fieldAddrB tf56_0 rfl) trivial rfl sl_5 ?_
     refine WA.tk 4 (by kernel_rfl) rfl hC (Qt.loadB 0 rfl ta3 rfl rfl) trivial rfl sl_5 ?_
     refine WA.tk 5 (by kernel_rfl) rfl hC (Qt.indexArr q Tryz.underlying124 ti123 rfl rfl (by omega)) trivial rfl sl_5 ?_
     refine WA.tk 6 (by kernel_rfl) rfl hC (Qt.indexArr j Tryz.underlying123 ti3 rfl rfl (by omega)) trivial rfl sl_5 ?_
     refine WA.tk 7 (by kernel_rfl) rfl hC (Qt.loadTab2 13 q j 2 rfl (by show q * 2 + j < 6; omega) ta3 rfl) trivial rfl sl_5 ?_
     refine WA.tk 8 (by kernel_rfl) rfl hC (Qt.fieldAddrB tf56_1 rfl) trivial rfl sl_5 ?_
     refine WA.tk 9 (by kernel_rfl) rfl hC (Qt.loadBA 0 rfl ta47 ti47 rfl rfl) trivial rfl sl_5 ?_
     refine WA.tk 10 (by kernel_rfl) rfl hC (Qt.build tp49 ti49 rfl rfl rfl) trivial rfl sl_5 ?_
     refine WA.one 11 (by kernel_rfl) ?_
     refine WO.call rfl (.take 6 rfl (.take 6 rfl (.nil))) (Cl.func cb52 rfl) (putW acc (Ins.mk (joinsT.getD (q * 2 + j) 0) (cs[i].sp) (cs[i].n) 0) _ _ _ _ _ _ _ _ _ _ _ _ _ _ (by omega)) trivial rfl (by rintro _ _ ⟨A_5, c_5, rfl, rfl⟩; exact ⟨_, (.take 2 rfl (.u 2 rfl (.take 3 rfl (.u 3 rfl (.u 4 rfl (.u 5 rfl (.u 6 rfl (.u 7 rfl (.take 8 rfl (.u 8 rfl (.u 9 rfl (.u 10 rfl (.u 11 rfl (.u 12 rfl (.u 13 rfl (.nil))))))))))))))))⟩) ?_
     rintro _ _ ⟨A_5, c_5, rfl, rfl⟩
     refine WA.done (by kernel_rfl) ?_
     refine WX.next ?_
     refine WC.exit ?_
     refine WX.pass_exit ?_
     refine WX.block_exit ?_
     refine WX.next ?_
     refine WC.region ?_
     refine WL.quiet (Qt.add rfl rfl (by omega)) rfl rfl ?_
     refine WL.quiet (Qt.move rfl) rfl rfl ?_
     refine WL.nil ?_
     exact WX.back (k + 1, A_5, c_5, (acc ++ [(Ins.mk (joinsT.getD (q * 2 + j) 0) (cs[i].sp) (cs[i].n) 0)])) ⟨by omega, by rw [layK_take _ _ _ _ hjk, ← List.append_assoc, ← hacc, layK1_join hq hx0 hi hil hne, joinI_eq hil hj (by omega) hq12]⟩ (by first | omega | (dsimp only; omega) | (simp; omega)) ⟨rfl, rfl, rfl, rfl, rfl, trivial⟩ (.u 7 rfl (.take 0 rfl (.take 0 rfl (.u 6 rfl (.u 7 rfl (.take 8 rfl (.u 8 rfl (.u 9 rfl (.u 10 rfl (.u 11 rfl (.u 12 rfl (.u 13 rfl (.nil)))))))))))))
    ·
     refine WC.skip ?_
     refine WX.next ?_
     refine WC.seq ?_
     refine WC.region ?_
     refine WL.quiet (Qt.move rfl) rfl rfl ?_
     refine WL.quiet (Qt.build tp49 ti49 rfl rfl rfl) rfl rfl ?_
     refine WL.call (.take 5 rfl (.take 5 rfl (.nil))) (Cl.func cb52 rfl) (putW acc (Ins.mk 8 0 0 0) _ _ _ _ _ _ _ _ _ _ _ _ _ _ (by omega)) trivial rfl ?_
     rintro _ _ ⟨A_6, c_6, rfl, rfl⟩
     refine WL.nil ?_
     refine WX.next ?_
     refine WC.seq ?_
     rw [← hi]
     refine WC.region ?_
     refine WL.quiet (Qt.move rfl) rfl rfl ?_
     refine WL.quiet (Qt.loadBA 3 rfl ta33 ti33 rfl rfl) rfl rfl ?_
     refine WL.call (.take 0 rfl (.take 0 rfl (.u 8 rfl (.u 9 rfl (.u 3 rfl (.u 11 rfl (.u 12 rfl (.u 13 rfl (.nil))))))))) (Cl.func cb30 rfl) (ih ((t.kids.drop 1)[k]) cs (acc ++ [(Ins.mk 8 0 0 0)]) _ _ _ _ _ _ _ _ _ _ _ _ _ _ (by have := kid_sizeD t k hjk; omega) hokx hkc (by simp only [List.length_append, List.length_cons, List.length_nil]; omega)) trivial rfl ?_
     rintro _ _ ⟨A_7, c_7, rfl, rfl⟩
     refine WL.nil ?_
     refine WX.next ?_
     refine WC.region ?_
     refine WL.quiet (Qt.move rfl) rfl rfl ?_
     refine WL.quiet (Qt.fieldAddrB tf33_0 rfl) rfl rfl ?_
     refine WL.quiet (Qt.loadB 9 rfl ta3 rfl rfl) rfl rfl ?_
     refine WL.quiet (Qt.indexArr q Tryz.underlying125 ti3 rfl rfl (by omega)) rfl rfl ?_
     refine WL.quiet (Qt.loadTab1 15 q rfl (by show q < 3; omega) ta3 rfl) rfl rfl ?_
     refine WL.quiet (Qt.build tp49 ti49 rfl rfl rfl) rfl rfl ?_
     refine WL.call (.take 0 rfl (.take 0 rfl (.nil))) (Cl.func cb52 rfl) (putW ((acc ++ [(Ins.mk 8 0 0 0)]) ++ layC cs ((t.kids.drop 1)[k])) (Ins.mk (popsT.getD q 0) 0 0 0) _ _ _ _ _ _ _ _ _ _ _ _ _ _ (by simp only [List.length_append, List.length_cons, List.length_nil]; omega)) trivial rfl ?_
     rintro _ _ ⟨A_8, c_8, rfl, rfl⟩
     refine WL.nil ?_
     refine WX.block_end ?_
     refine WX.next ?_
     refine WC.region ?_
     refine WL.quiet (Qt.add rfl rfl (by omega)) rfl rfl ?_
     refine WL.quiet (Qt.move rfl) rfl rfl ?_
     refine WL.nil ?_
     exact WX.back (k + 1, A_8, c_8, (((acc ++ [(Ins.mk 8 0 0 0)]) ++ layC cs ((t.kids.drop 1)[k])) ++ [(Ins.mk (popsT.getD q 0) 0 0 0)])) ⟨by omega, by rw [layK_take _ _ _ _ hjk, ← List.append_assoc, ← hacc, layK1_edge hq hi hil (by simpa using hc_3), pops_get hq12]; simp⟩ (by first | omega | (dsimp only; omega) | (simp; omega)) ⟨rfl, rfl, rfl, rfl, rfl, trivial⟩ (.u 6 rfl (.take 0 rfl (.take 0 rfl (.u 5 rfl (.u 6 rfl (.take 7 rfl (.u 7 rfl (.u 8 rfl (.u 9 rfl (.u 10 rfl (.u 11 rfl (.u 12 rfl (.nil)))))))))))))
   ·
    have hjk : k < (t.kids.drop 1).length := by omega
    have hokx := hok.kidD hc_1 hjk
    have hroom := lay_room hok hc_1 hk0 hjk t.kind
    have hal : acc.length = l.length + (layC cs t.kids[0]).length + (layK cs t.kind ((t.kids.drop 1).take k)).length := by rw [hacc]; simp only [List.length_append]
    have hlx := layC_len _ hokx.1 hokx.2
    refine WC.seq ?_
    refine WC.calm (Calm.then (Calm.then (Calm.inBlock (Calm.then (Calm.then (Calm.inBlock (calm_FQ _ _))))))) fun hC => ?_
    refine WC.draw (Γq := [blk b_3 33 [.int .i64 ((t.kids.drop 1)[k].kind), .int .i64 ((t.kids.drop 1)[k].n), .slice A_4 ((t.kids.drop 1)[k].kids.length) c_4], cellsAt (p_4.add (k * 3)) [.int .i64 ((t.kids.drop 1)[k].kind), .int .i64 ((t.kids.drop 1)[k].n), .slice A_4 ((t.kids.drop 1)[k].kids.length) c_4], rd kTree A_4 c_4 ((t.kids.drop 1)[k].kids), rd kTree (cutA tc 1 TA 3) (tc - 1) (t.kids.drop 1), blk bk 87 [.string nm, .slice CA cs.length cc, .slice OA no oc, .string cm, .slice SA cs.length sc, .slice A1 acc.length c1], row kIns 49 A1 c1 acc, cellsAt (p_3.add (0 * 3)) [.int .i64 (t.kids[0].kind), .int .i64 (t.kids[0].n), .slice A_2 (t.kids[0].kids.length) c_2], rd kTree A_2 c_2 (t.kids[0].kids), blk b_1 33 [.int .i64 ((q : Nat) : Int), .int .i64 t.n, .slice TA t.kids.length tc], rd kContact CA cc cs, rd kInt SA sc (slotsL cs), rd kTree TA tc t.kids, cellsAt ⟨0, 0, none⟩ (loadsT.map (Value.int .i64)), cellsAt ⟨1, 0, none⟩ (joinsT.map (Value.int .i64)), cellsAt ⟨2, 0, none⟩ (popsT.map (Value.int .i64))]) [0, 1, 2, 3, 4, 5, 6, 7, 8, 9, 10, 11, 12, 13, 14, 15] mixed ?_
    refine WA.named (.take 0 rfl (.u 0 rfl (.u 1 rfl (.u 2 rfl (.take 3 rfl (.take 3 rfl (.u 3 rfl (.u 4 rfl (.take 5 rfl (.u 5 rfl (.u 6 rfl (.u 7 rfl (.u 8 rfl (.u 9 rfl (.u 10 rfl (.nil)))))))))))))))) fun sl_6 => ?_
    refine WA.tk 0 (by kernel_rfl) rfl hC (Qt.fieldAddrB tf33_0 rfl) trivial rfl sl_6 ?_
    refine WA.tk 1 (by kernel_rfl) rfl hC (Qt.loadB 0 rfl ta3 rfl rfl) trivial rfl sl_6 ?_
    refine WA.tk 2 (by kernel_rfl) rfl hC (Qt.to (Qt.eql rfl rfl) (congrArg Value.bool (decide_eq_false hx0))) trivial rfl sl_6 ?_
    refine WA.tk 3 (by kernel_rfl) rfl hC (Qt.move rfl) trivial rfl sl_6 ?_
    refine WA.sk 4 (by kernel_rfl) rfl hC 3 true _ rfl 54 rfl rfl (fun c h => by injection h with h; subst h; rfl) rfl sl_6 ?_
    refine WA.sk 5 (by kernel_rfl) rfl hC 3 true _ rfl 54 rfl rfl (fun c h => by injection h with h; subst h; rfl) rfl sl_6 ?_
    refine WA.sk 6 (by kernel_rfl) rfl hC 3 true _ rfl 54 rfl rfl (fun c h => by injection h with h; subst h; rfl) rfl sl_6 ?_
    refine WA.sk 7 (by kernel_rfl) rfl hC 3 true _ rfl 54 rfl rfl (fun c h => by injection h with h; subst h; rfl) rfl sl_6 ?_
    refine WA.sk 8 (by kernel_rfl) rfl hC 3 true _ rfl 54 rfl rfl (fun c h => by injection h with h; subst h; rfl) rfl sl_6 ?_
    refine WA.sk 9 (by kernel_rfl) rfl hC 3 true _ rfl 54 rfl rfl (fun c h => by injection h with h; subst h; rfl) rfl sl_6 ?_
    refine WA.sk 10 (by kernel_rfl) rfl hC 3 true _ rfl 54 rfl rfl (fun c h => by injection h with h; subst h; rfl) rfl sl_6 ?_
    refine WA.sk 11 (by kernel_rfl) rfl hC 3 true _ rfl 54 rfl rfl (fun c h => by injection h with h; subst h; rfl) rfl sl_6 ?_
    refine WA.sk 12 (by kernel_rfl) rfl hC 3 true _ rfl 54 rfl rfl (fun c h => by injection h with h; subst h; rfl) rfl sl_6 ?_
    refine WA.sk 13 (by kernel_rfl) rfl hC 3 true _ rfl 54 rfl rfl (fun c h => by injection h with h; subst h; rfl) rfl sl_6 ?_
    refine WA.sk 14 (by kernel_rfl) rfl hC 3 true _ rfl 54 rfl rfl (fun c h => by injection h with h; subst h; rfl) rfl sl_6 ?_
    refine WA.tk 15 (by kernel_rfl) rfl hC (Qt.pickF rfl rfl) trivial rfl sl_6 ?_
    refine WA.done (by kernel_rfl) ?_
    refine WX.next ?_
    refine WC.no rfl ?_
    refine WC.skip ?_
    refine WX.next ?_
    refine WC.seq ?_
    refine WC.region ?_
    refine WL.quiet (Qt.move rfl) rfl rfl ?_
    refine WL.quiet (Qt.build tp49 ti49 rfl rfl rfl) rfl rfl ?_
    refine WL.call (.take 4 rfl (.take 4 rfl (.nil))) (Cl.func cb52 rfl) (putW acc (Ins.mk 8 0 0 0) _ _ _ _ _ _ _ _ _ _ _ _ _ _ (by omega)) trivial rfl ?_
    rintro _ _ ⟨A_9, c_9, rfl, rfl⟩
    refine WL.nil ?_
    refine WX.next ?_
    refine WC.seq ?_
    refine WC.region ?_
    refine WL.quiet (Qt.move rfl) rfl rfl ?_
    refine WL.quiet (Qt.loadBA 2 rfl ta33 ti33 rfl rfl) rfl rfl ?_
    refine WL.call (.take 0 rfl (.take 0 rfl (.u 7 rfl (.u 8 rfl (.u 2 rfl (.u 10 rfl (.u 11 rfl (.u 12 rfl (.nil))))))))) (Cl.func cb30 rfl) (ih ((t.kids.drop 1)[k]) cs (acc ++ [(Ins.mk 8 0 0 0)]) _ _ _ _ _ _ _ _ _ _ _ _ _ _ (by have := kid_sizeD t k hjk; omega) hokx hkc (by simp only [List.length_append, List.length_cons, List.length_nil]; omega)) trivial rfl ?_
    rintro _ _ ⟨A_10, c_10, rfl, rfl⟩
    refine WL.nil ?_
    refine WX.next ?_
    refine WC.region ?_
    refine WL.quiet (Qt.move rfl) rfl rfl ?_
    refine WL.quiet (Qt.fieldAddrB tf33_0 rfl) rfl rfl ?_
    refine WL.quiet (Qt.loadB 8 rfl ta3 rfl rfl) rfl rfl ?_
    refine WL.quiet (Qt.indexArr q Tryz.underlying125 ti3 rfl rfl (by omega)) rfl rfl ?_
    refine WL.quiet (Qt.loadTab1 14 q rfl (by show q < 3; omega) ta3 rfl) rfl rfl ?_
    refine WL.quiet (Qt.build tp49 ti49 rfl rfl rfl) rfl rfl ?_
    refine WL.call (.take 0 rfl (.take 0 rfl (.nil))) (Cl.func cb52 rfl) (putW ((acc ++ [(Ins.mk 8 0 0 0)]) ++ layC cs ((t.kids.drop 1)[k])) (Ins.mk (popsT.getD q 0) 0 0 0) _ _ _ _ _ _ _ _ _ _ _ _ _ _ (by simp only [List.length_append, List.length_cons, List.length_nil]; omega)) trivial rfl ?_
    rintro _ _ ⟨A_11, c_11, rfl, rfl⟩
    refine WL.nil ?_
    refine WX.block_end ?_
    refine WX.next ?_
    refine WC.region ?_
    refine WL.quiet (Qt.add rfl rfl (by omega)) rfl rfl ?_
    refine WL.quiet (Qt.move rfl) rfl rfl ?_
    refine WL.nil ?_
    exact WX.back (k + 1, A_11, c_11, (((acc ++ [(Ins.mk 8 0 0 0)]) ++ layC cs ((t.kids.drop 1)[k])) ++ [(Ins.mk (popsT.getD q 0) 0 0 0)])) ⟨by omega, by rw [layK_take _ _ _ _ hjk, ← List.append_assoc, ← hacc, layK1_kid hq hx0, pops_get hq12]; simp⟩ (by first | omega | (dsimp only; omega) | (simp; omega)) ⟨rfl, rfl, rfl, rfl, rfl, trivial⟩ (.u 5 rfl (.take 0 rfl (.take 0 rfl (.u 4 rfl (.u 5 rfl (.take 6 rfl (.u 6 rfl (.u 7 rfl (.u 8 rfl (.u 9 rfl (.u 10 rfl (.u 11 rfl (.nil)))))))))))))
  ·
   refine WC.exit ?_
   refine WX.pass_exit ?_
   refine WX.pass_exit ?_
   refine WX.block_exit ?_
   rw [List.take_of_length_le (by omega)] at hacc
   rw [List.append_assoc, ← layC_kids cs t hc_1 hk0] at hacc
   subst hacc
   refine WX.end0 (.take 1 rfl (.take 1 rfl (.nil))) rfl ?_
   exact ⟨_, _, rfl, rfl⟩
theorem layW (t : PT) (cs : List Contact) (l : List Ins) (nm cm : ByteArray) (CA OA SA A TA : Option Addr) (no cc oc sc c tc bk : Nat) (hok : LayOk cs t) (hkc : KindsOk cs) (hl : l.length + 4 * t.leaves.length ≤ 1000000) : Spec μ Tryz.prog 30 #[.pointer (some ⟨bk, 0, none⟩), .agg [.int .i64 t.kind, .int .i64 t.n, .slice TA t.kids.length tc].toArray] [blk bk 87 [.string nm, .slice CA cs.length cc, .slice OA no oc, .string cm, .slice SA cs.length sc, .slice A l.length c], row kIns 49 A c l, rd kContact CA cc cs, rd kInt SA sc (slotsL cs), rd kTree TA tc t.kids, cellsAt ⟨0, 0, none⟩ (loadsT.map (Value.int .i64)), cellsAt ⟨1, 0, none⟩ (joinsT.map (Value.int .i64)), cellsAt ⟨2, 0, none⟩ (popsT.map (Value.int .i64))] fun v Δ => ∃ A1 c1, v = .tuple #[] ∧ Δ = [blk bk 87 [.string nm, .slice CA cs.length cc, .slice OA no oc, .string cm, .slice SA cs.length sc, .slice A1 ((l ++ layC cs t).length) c1], row kIns 49 A1 c1 (l ++ layC cs t)] := layW_ih _ t cs l nm cm CA OA SA A TA no cc oc sc c tc bk (Nat.lt_succ_self _) hok hkc hl

end Go.Proofs.YtolggjmgfijjfaaGreatDoor.Sep

/- A walk, printed by gen.py out of hints. -/
namespace Go.Proofs.YtolggjmgfijjfaaGreatDoor.Sep
open Go
variable {μ : Prop}
theorem kindBadW (x : Contact)  : Spec μ Tryz.prog 28 #[.agg [.int .i64 x.kind, .int .i64 x.sp, .int .i64 x.n, .string x.frm, .string x.to].toArray] [] fun v Δ => v = .bool (decide (x.kind < 0 ∨ x.kind ≥ 4)) ∧ Δ = [] := by
 refine Spec.of_body (n := 11) Tryz.func28 rfl rfl rfl fun w0 S0 O0 => ?_
 show WC _ _ _ _ _ _ [(0, .agg [.int .i64 x.kind, .int .i64 x.sp, .int .i64 x.n, .string x.frm, .string x.to].toArray)] []
 refine WC.seq ?_
 refine WC.region ?_
 refine WL.loud (.nil) (Ld.box rfl rfl) trivial rfl ?_
 rintro _ _ ⟨b_1, rfl, rfl⟩
 refine WL.quiet (Qt.assign rfl) rfl rfl ?_
 refine WL.nil ?_
 refine WX.next ?_
 refine WC.cut (fun _ : Unit => [(2, .bool (decide (((x.kind : Int) < 0) ∨ ((x.kind : Int) ≥ 4))))]) (fun _ => [blk b_1 56 [.int .i64 x.kind, .int .i64 x.sp, .int .i64 x.n, .string x.frm, .string x.to]]) (fun _ => True) ?_ ?_
 ·
  refine WC.region ?_
  refine WL.quiet (Qt.fieldAddrB tf56_0 rfl) rfl rfl ?_
  refine WL.quiet (Qt.loadB 0 rfl ta3 rfl rfl) rfl rfl ?_
  refine WL.quiet (Qt.lss rfl rfl) rfl rfl ?_
  refine WL.quiet (Qt.move rfl) rfl rfl ?_
  refine WL.splitD 6 rfl rfl (fun hg_1 => ?_) (fun hg_1 => ?_)
  ·
   refine WL.skipG 3 false true rfl 6 rfl rfl rfl rfl ?_
   refine WL.skipG 3 false true rfl 6 rfl rfl rfl rfl ?_
   refine WL.skipG 3 false true rfl 6 rfl rfl rfl rfl ?_
   refine WL.quiet (Qt.pickT rfl rfl) rfl rfl ?_
   refine WL.quiet (Qt.assign rfl) rfl rfl ?_
   refine WL.nil ?_
   exact WX.cut () trivial ⟨(by rw [show decide (((x.kind : Int) < 0) ∨ ((x.kind : Int) ≥ 4)) = true from by first | (simp [hg_1]; done) | exact decide_eq_decide.2 (by omega) | exact decide_eq_true (by omega) | exact decide_eq_false (by omega) | (simp [hg_1] <;> omega)]; rfl), trivial⟩ (.take 0 rfl (.nil))
  ·
   refine WL.quietG 3 false rfl 6 rfl rfl (Qt.fieldAddrB tf56_0 rfl) rfl ?_
   refine WL.quietG 3 false rfl 6 rfl rfl (Qt.loadB 0 rfl ta3 rfl rfl) rfl ?_
   refine WL.quietG 3 false rfl 6 rfl rfl (Qt.geq rfl rfl) rfl ?_
   refine WL.quiet (Qt.pickF rfl rfl) rfl rfl ?_
   refine WL.quiet (Qt.assign rfl) rfl rfl ?_
   refine WL.nil ?_
   exact WX.cut () trivial ⟨(by rw [show decide (((x.kind : Int) < 0) ∨ ((x.kind : Int) ≥ 4)) = (decide ((x.kind : Int) ≥ 4)) from by first | (simp [hg_1]; done) | exact decide_eq_decide.2 (by omega) | exact decide_eq_true (by omega) | exact decide_eq_false (by omega) | (simp [hg_1] <;> omega)]; rfl), trivial⟩ (.take 0 rfl (.nil))
 ·
  intro _ _
  show WC _ _ _ _ _ _ [(2, .bool (decide (((x.kind : Int) < 0) ∨ ((x.kind : Int) ≥ 4))))] [blk b_1 56 [.int .i64 x.kind, .int .i64 x.sp, .int .i64 x.n, .string x.frm, .string x.to]]
  refine WC.ret ?_
  refine WX.ret1 (.nil) rfl rfl ?_
  exact ⟨rfl, rfl⟩

end Go.Proofs.YtolggjmgfijjfaaGreatDoor.Sep

/- A walk, printed by gen.py out of hints. -/
namespace Go.Proofs.YtolggjmgfijjfaaGreatDoor.Sep
open Go
variable {μ : Prop}
theorem indexKindW (cs : List Contact) (A : Option Addr) (c : Nat) (hkc : KindsOk cs) : Spec μ Tryz.prog 51 #[.slice A cs.length c, .func (.func 28) #[] #[]] [rd kContact A c cs] fun v Δ => v = .int .i64 (-1) ∧ Δ = [] := by
 refine Spec.of_body (n := 19) Tryz.func51 rfl rfl rfl fun w0 S0 O0 => ?_
 show WC _ _ _ _ _ _ [(0, .slice A cs.length c), (1, .func (.func 28) #[] #[])] [rd kContact A c cs]
 refine WC.learn (Z := Unit) (Δ := fun _ => []) (φ := fun _ => cs.length ≤ c ∧ c ≤ 9223372036854775807) 0 rfl (fun S w h => ⟨(), rd_bounds h, nofacts⟩) ?_
 rintro _ ⟨hb_1, hb_2⟩
 refine WC.seq ?_
 refine WC.region ?_
 refine WL.quiet (Qt.assign rfl) rfl rfl ?_
 refine WL.nil ?_
 refine WX.next ?_
 refine WC.seq ?_
 refine WC.seq ?_
 refine WC.region ?_
 refine WL.quiet (Qt.move rfl) rfl rfl ?_
 refine WL.quiet (Qt.lenS Tryz.underlying22 rfl) rfl rfl ?_
 refine WL.quiet (Qt.move rfl) rfl rfl ?_
 refine WL.nil ?_
 refine WX.next ?_
 refine WC.block ?_
 refine WC.loop (fun w0 : Nat => [(0, .slice A cs.length c), (1, .func (.func 28) #[] #[]), (4, .int .i64 0), (7, .int .i64 ((cs.length : Nat) : Int)), (8, .int .i64 ((w0 : Nat) : Int))]) (fun w0 => [rd kContact A c cs]) (fun w0 => w0 ≤ cs.length) (fun w0 => cs.length - w0) 0 (Nat.zero_le _) ⟨rfl, rfl, rfl, rfl, rfl, trivial⟩ (.u 0 rfl (.nil)) ?_
 rintro k hk
 try dsimp only at hk
 show WC _ _ _ _ _ _ [(0, .slice A cs.length c), (1, .func (.func 28) #[] #[]), (4, .int .i64 0), (7, .int .i64 ((cs.length : Nat) : Int)), (8, .int .i64 ((k : Nat) : Int))] [rd kContact A c cs]
 refine WC.seq ?_
 refine WC.region ?_
 refine WL.quiet (Qt.lss rfl rfl) rfl rfl ?_
 refine WL.nil ?_
 refine WX.next ?_
 refine WC.seq ?_
 refine WC.condD rfl (fun hc_1 => ?_) (fun hc_1 => ?_)
 ·
  refine WC.skip ?_
  refine WX.next ?_
  refine WC.seq ?_
  refine WC.block ?_
  refine WC.seq ?_
  refine WC.region ?_
  refine WL.quiet (Qt.move rfl) rfl rfl ?_
  refine WL.quiet (Qt.assign rfl) rfl rfl ?_
  refine WL.nil ?_
  refine WX.next ?_
  refine WC.seq ?_
  refine WC.region ?_
  refine WL.quiet (Qt.move rfl) rfl rfl ?_
  refine WL.quiet (Qt.move rfl) rfl rfl ?_
  refine WL.quiet (Qt.move rfl) rfl rfl ?_
  have hj_1 : k < cs.length := by omega
  refine WL.learn 0 rfl (rd_at k hj_1 (vContact _)) ?_
  rintro ⟨p_1, ⟨⟩⟩ hA_1
  refine WL.quiet (Qt.indexAddrE k hA_1 Tryz.underlying22 ti56 rfl rfl (by first | assumption | omega)) rfl rfl ?_
  refine WL.quiet (Qt.loadCA (p := p_1.add (k * 5)) (o := 0) 0 rfl ta56 ti56 rfl rfl) rfl rfl ?_
  refine WL.call (.nil) (Cl.val cb28 rfl rfl) (kindBadW (cs[k])) trivial rfl ?_
  rintro _ _ ⟨rfl, rfl⟩
  refine WL.nil ?_
  refine WX.next ?_
  refine WC.condD rfl (fun hc_2 => ?_) (fun hc_2 => ?_)
  ·
   exact absurd hc_2 (by have := hkc k (by omega); omega)
  ·
   refine WC.skip ?_
   refine WX.block_end ?_
   refine WX.next ?_
   refine WC.region ?_
   refine WL.quiet (Qt.add rfl rfl (by omega)) rfl rfl ?_
   refine WL.quiet (Qt.move rfl) rfl rfl ?_
   refine WL.nil ?_
   exact WX.back (k + 1) (by omega) (by first | omega | (dsimp only; omega) | (simp; omega)) ⟨rfl, rfl, rfl, rfl, rfl, trivial⟩ (.u 1 rfl (.nil))
 ·
  refine WC.exit ?_
  refine WX.pass_exit ?_
  refine WX.pass_exit ?_
  refine WX.block_exit ?_
  refine WX.next ?_
  refine WC.seq ?_
  refine WC.region ?_
  refine WL.quiet (Qt.assign rfl) rfl rfl ?_
  refine WL.nil ?_
  refine WX.next ?_
  refine WC.ret ?_
  refine WX.ret1 (.nil) rfl rfl ?_
  exact ⟨rfl, rfl⟩

end Go.Proofs.YtolggjmgfijjfaaGreatDoor.Sep

/- A walk, printed by gen.py out of hints. -/
namespace Go.Proofs.YtolggjmgfijjfaaGreatDoor.Sep
open Go
variable {μ : Prop}
theorem containsKindW (cs : List Contact) (A : Option Addr) (c : Nat) (hkc : KindsOk cs) : Spec μ Tryz.prog 27 #[.slice A cs.length c, .func (.func 28) #[] #[]] [rd kContact A c cs] fun v Δ => v = .bool false ∧ Δ = [] := by
 refine Spec.of_body (n := 9) Tryz.func27 rfl rfl rfl fun w0 S0 O0 => ?_
 show WC _ _ _ _ _ _ [(0, .slice A cs.length c), (1, .func (.func 28) #[] #[])] [rd kContact A c cs]
 refine WC.seq ?_
 refine WC.region ?_
 refine WL.quiet (Qt.assign rfl) rfl rfl ?_
 refine WL.nil ?_
 refine WX.next ?_
 refine WC.seq ?_
 refine WC.region ?_
 refine WL.quiet (Qt.move rfl) rfl rfl ?_
 refine WL.quiet (Qt.move rfl) rfl rfl ?_
 refine WL.call (.u 0 rfl (.nil)) (Cl.func cb51 rfl) (indexKindW cs _ _ hkc) trivial rfl ?_
 rintro _ _ ⟨rfl, rfl⟩
 refine WL.quiet (Qt.geq rfl rfl) rfl rfl ?_
 refine WL.quiet (Qt.assign rfl) rfl rfl ?_
 refine WL.nil ?_
 refine WX.next ?_
 refine WC.ret ?_
 refine WX.ret1 (.nil) rfl rfl ?_
 exact ⟨rfl, rfl⟩

end Go.Proofs.YtolggjmgfijjfaaGreatDoor.Sep

/- A walk, printed by gen.py out of hints. -/
namespace Go.Proofs.YtolggjmgfijjfaaGreatDoor.Sep
open Go
variable {μ : Prop}
theorem treeCodeW (t : PT) (cs : List Contact) (nm cm : ByteArray) (CA OA TA : Option Addr) (no cc oc tc : Nat) (hv : Vld (cs.length : Int) [] t ∧ (t.leaves.length : Int) = max 0 (cs.length : Int)) (hkc : KindsOk cs) (hlen : cs.length ≤ 100000) : Spec μ Tryz.prog 8 #[.agg [.string nm, .slice CA cs.length cc, .slice OA no oc, .string cm].toArray, .agg [.int .i64 t.kind, .int .i64 t.n, .slice TA t.kids.length tc].toArray, .int .i64 0] [rd kContact CA cc cs, rd kTree TA tc t.kids, cellsAt ⟨0, 0, none⟩ (loadsT.map (Value.int .i64)), cellsAt ⟨1, 0, none⟩ (joinsT.map (Value.int .i64)), cellsAt ⟨2, 0, none⟩ (popsT.map (Value.int .i64))] fun v Δ => ∃ A1 c1, v = .tuple #[.slice A1 (layC cs t).length c1, .int .i64 0] ∧ Δ = [row kIns 49 A1 c1 (layC cs t)] := by
 refine Spec.of_body (n := 63) Tryz.func8 rfl rfl rfl fun w0 S0 O0 => ?_
 show WC _ _ _ _ _ _ [(0, .agg [.string nm, .slice CA cs.length cc, .slice OA no oc, .string cm].toArray), (1, .agg [.int .i64 t.kind, .int .i64 t.n, .slice TA t.kids.length tc].toArray), (2, .int .i64 0)] [rd kContact CA cc cs, rd kTree TA tc t.kids, cellsAt ⟨0, 0, none⟩ (loadsT.map (Value.int .i64)), cellsAt ⟨1, 0, none⟩ (joinsT.map (Value.int .i64)), cellsAt ⟨2, 0, none⟩ (popsT.map (Value.int .i64))]
 refine WC.learn (Z := Unit) (Δ := fun _ => []) (φ := fun _ => cs.length ≤ cc ∧ cc ≤ 9223372036854775807) 0 rfl (fun S w h => ⟨(), rd_bounds h, nofacts⟩) ?_
 rintro _ ⟨hb_1, hb_2⟩
 refine WC.learn (Z := Unit) (Δ := fun _ => []) (φ := fun _ => t.kids.length ≤ tc ∧ tc ≤ 9223372036854775807) 1 rfl (fun S w h => ⟨(), rd_bounds h, nofacts⟩) ?_
 rintro _ ⟨hb_3, hb_4⟩
 refine WC.seq ?_
 refine WC.region ?_
 refine WL.loud (.nil) (Ld.box rfl rfl) trivial rfl ?_
 rintro _ _ ⟨b_1, rfl, rfl⟩
 refine WL.loud (.nil) (Ld.box rfl rfl) trivial rfl ?_
 rintro _ _ ⟨b_2, rfl, rfl⟩
 refine WL.quiet (Qt.assign rfl) rfl rfl ?_
 refine WL.quiet (Qt.assign rfl) rfl rfl ?_
 refine WL.nil ?_
 refine WX.next ?_
 refine WC.seq ?_
 refine WC.seq ?_
 refine WC.region ?_
 refine WL.quiet (Qt.loadBA 0 rfl ta33 ti33 rfl rfl) rfl rfl ?_
 refine WL.quiet (Qt.fieldAddrB tf25_1 rfl) rfl rfl ?_
 refine WL.quiet (Qt.loadB 1 rfl ta22 rfl rfl) rfl rfl ?_
 refine WL.quiet (Qt.lenS Tryz.underlying22 rfl) rfl rfl ?_
 refine WL.call (.u 3 rfl (.nil)) (Cl.func cb26 rfl) (treeCheckW t ((cs.length : Nat) : Int) _ _) trivial rfl ?_
 rintro _ _ ⟨e_1, rfl, rfl, hck_1⟩
 refine WL.quiet (Qt.assign rfl) rfl rfl ?_
 refine WL.nil ?_
 refine WX.next ?_
 refine WC.seq ?_
 refine WC.region ?_
 refine WL.quiet (Qt.move rfl) rfl rfl ?_
 refine WL.quiet (Qt.neq rfl rfl) rfl rfl ?_
 refine WL.nil ?_
 refine WX.next ?_
 refine WC.condD rfl (fun hc_1 => ?_) (fun hc_1 => ?_)
 ·
  exact absurd (hck_1.2 hv) hc_1
 ·
  refine WC.skip ?_
  refine WX.next ?_
  refine WC.seq ?_
  refine WC.seq ?_
  refine WC.region ?_
  refine WL.quiet (Qt.fieldAddrB tf25_1 rfl) rfl rfl ?_
  refine WL.quiet (Qt.loadB 1 rfl ta22 rfl rfl) rfl rfl ?_
  refine WL.call (.u 2 rfl (.nil)) (Cl.func cb27 rfl) (containsKindW cs _ _ hkc) trivial rfl ?_
  rintro _ _ ⟨rfl, rfl⟩
  refine WL.nil ?_
  refine WX.next ?_
  refine WC.no rfl ?_
  refine WC.skip ?_
  refine WX.next ?_
  refine WC.seq ?_
  refine WC.seq ?_
  refine WC.region ?_
  refine WL.quiet (Qt.move rfl) rfl rfl ?_
  refine WL.quiet (Qt.lss rfl rfl) rfl rfl ?_
  refine WL.quiet (Qt.move rfl) rfl rfl ?_
  refine WL.quietG 2 false rfl 25 rfl rfl (Qt.move rfl) rfl ?_
  refine WL.quietG 2 false rfl 25 rfl rfl (Qt.gtr rfl rfl) rfl ?_
  refine WL.quiet (Qt.pickF rfl rfl) rfl rfl ?_
  refine WL.nil ?_
  refine WX.next ?_
  refine WC.no rfl ?_
  refine WC.skip ?_
  refine WX.next ?_
  refine WC.seq ?_
  refine WC.calm (Calm.then (calm_FQ _ _)) fun hC => ?_
  refine WC.draw (Γq := [blk b_2 33 [.int .i64 t.kind, .int .i64 t.n, .slice TA t.kids.length tc], blk b_1 25 [.string nm, .slice CA cs.length cc, .slice OA no oc, .string cm], rd kContact CA cc cs, rd kTree TA tc t.kids, cellsAt ⟨0, 0, none⟩ (loadsT.map (Value.int .i64)), cellsAt ⟨1, 0, none⟩ (joinsT.map (Value.int .i64)), cellsAt ⟨2, 0, none⟩ (popsT.map (Value.int .i64))]) [0, 1, 2, 3, 4, 5, 6] mixed ?_
  refine WA.named (.take 0 rfl (.take 0 rfl (.u 0 rfl (.u 1 rfl (.u 2 rfl (.u 3 rfl (.u 4 rfl (.nil)))))))) fun sl_1 => ?_
  refine WA.tk 0 (by kernel_rfl) rfl hC (Qt.loadBA 1 rfl ta25 ti25 rfl rfl) trivial rfl sl_1 ?_
  refine WA.tk 1 (by kernel_rfl) rfl hC (Qt.fieldAddrB tf25_1 rfl) trivial rfl sl_1 ?_
  refine WA.tk 2 (by kernel_rfl) rfl hC (Qt.loadB 1 rfl ta22 rfl rfl) trivial rfl sl_1 ?_
  refine WA.tk 3 (by kernel_rfl) rfl hC (Qt.lenS Tryz.underlying22 rfl) trivial rfl sl_1 ?_
  refine WA.one 4 (by kernel_rfl) ?_
  refine WO.loud rfl (.nil) (Ld.makeSlice (e := kInt) (m := cs.length) (0 : Int) Tryz.underlying85 ti3 rfl (by decide) (by decide) rfl (by omega) (fun _ _ => rfl)) trivial rfl (by rintro _ _ ⟨A_1, rfl, rfl⟩; exact ⟨_, (.take 1 rfl (.take 1 rfl (.u 1 rfl (.u 2 rfl (.u 3 rfl (.u 4 rfl (.u 5 rfl (.nil))))))))⟩) ?_
  rintro _ _ ⟨A_1, rfl, rfl⟩
  refine WA.named (.take 1 rfl (.take 1 rfl (.u 1 rfl (.u 2 rfl (.u 3 rfl (.u 4 rfl (.u 5 rfl (.nil)))))))) fun sl_2 => ?_
  refine WA.tk 5 (by kernel_rfl) rfl hC (Qt.build tp87 ti87 rfl rfl rfl) trivial rfl sl_2 ?_
  refine WA.one 6 (by kernel_rfl) ?_
  refine WO.loud rfl (.nil) (Ld.box rfl rfl) trivial rfl (by rintro _ _ ⟨b_3, rfl, rfl⟩; exact ⟨_, (.take 2 rfl (.take 2 rfl (.u 2 rfl (.u 3 rfl (.u 4 rfl (.u 5 rfl (.u 6 rfl (.nil))))))))⟩) ?_
  rintro _ _ ⟨b_3, rfl, rfl⟩
  refine WA.phase (K' := [0, 1, 2, 3, 4, 5, 6, 7]) (Γq' := [blk b_3 87 [.string nm, .slice CA cs.length cc, .slice OA no oc, .string cm, .slice A_1 ((List.replicate cs.length (0 : Int)).length) cs.length, .slice none 0 0], row kInt 3 A_1 cs.length (List.replicate cs.length (0 : Int)), blk b_2 33 [.int .i64 t.kind, .int .i64 t.n, .slice TA t.kids.length tc], blk b_1 25 [.string nm, .slice CA cs.length cc, .slice OA no oc, .string cm], rd kContact CA cc cs, rd kTree TA tc t.kids, cellsAt ⟨0, 0, none⟩ (loadsT.map (Value.int .i64)), cellsAt ⟨1, 0, none⟩ (joinsT.map (Value.int .i64)), cellsAt ⟨2, 0, none⟩ (popsT.map (Value.int .i64))]) (by kernel_rfl) ?_
  refine WA.named (.take 0 rfl (.take 0 rfl (.take 0 rfl (.take 0 rfl (.u 0 rfl (.u 1 rfl (.u 2 rfl (.u 3 rfl (.u 4 rfl (.nil)))))))))) fun sl_3 => ?_
  refine WA.tk 7 (by kernel_rfl) rfl hC (Qt.assign rfl) trivial rfl sl_3 ?_
  refine WA.done (by kernel_rfl) ?_
  refine WX.next ?_
  refine WC.seq ?_
  refine WC.seq ?_
  rw [show (List.replicate cs.length (0 : Int)).length = cs.length from List.length_replicate]
  rw [slotsP_zero cs]
  refine WC.region ?_
  refine WL.quiet (Qt.fieldAddrB tf25_1 rfl) rfl rfl ?_
  refine WL.quiet (Qt.loadB 3 rfl ta22 rfl rfl) rfl rfl ?_
  refine WL.quiet (Qt.lenS Tryz.underlying22 rfl) rfl rfl ?_
  refine WL.quiet (Qt.move rfl) rfl rfl ?_
  refine WL.nil ?_
  refine WX.next ?_
  refine WC.block ?_
  refine WC.loop (fun w0 : Nat × (Option Addr) × Nat × (List Int) => [(2, .int .i64 (((slotN cs w0.1) : Nat) : Int)), (4, .pointer (some ⟨b_2, 0, none⟩)), (6, .slice none 0 0), (7, .int .i64 0), (9, .pointer (some ⟨b_3, 0, none⟩)), (37, .slice CA cs.length cc), (38, .int .i64 ((cs.length : Nat) : Int)), (39, .int .i64 ((w0.1 : Nat) : Int))]) (fun w0 => [blk b_3 87 [.string nm, .slice CA cs.length cc, .slice OA no oc, .string cm, .slice w0.2.1 cs.length w0.2.2.1, .slice none 0 0], row kInt 3 w0.2.1 w0.2.2.1 w0.2.2.2, blk b_2 33 [.int .i64 t.kind, .int .i64 t.n, .slice TA t.kids.length tc], blk b_1 25 [.string nm, .slice CA cs.length cc, .slice OA no oc, .string cm], rd kContact CA cc cs, rd kTree TA tc t.kids, cellsAt ⟨0, 0, none⟩ (loadsT.map (Value.int .i64)), cellsAt ⟨1, 0, none⟩ (joinsT.map (Value.int .i64)), cellsAt ⟨2, 0, none⟩ (popsT.map (Value.int .i64))]) (fun w0 => w0.1 ≤ cs.length ∧ w0.2.2.2 = slotsP cs w0.1) (fun w0 => cs.length - w0.1) (0, A_1, cs.length, (slotsP cs 0)) ⟨Nat.zero_le _, rfl⟩ ⟨rfl, rfl, rfl, rfl, rfl, rfl, rfl, rfl, trivial⟩ (.take 0 rfl (.take 0 rfl (.take 0 rfl (.take 0 rfl (.u 0 rfl (.u 1 rfl (.u 2 rfl (.u 3 rfl (.u 4 rfl (.nil)))))))))) ?_
  rintro ⟨k, S1, c1, xs⟩ ⟨hk, hxs⟩
  try dsimp only at hk hxs
  show WC _ _ _ _ _ _ [(2, .int .i64 (((slotN cs k) : Nat) : Int)), (4, .pointer (some ⟨b_2, 0, none⟩)), (6, .slice none 0 0), (7, .int .i64 0), (9, .pointer (some ⟨b_3, 0, none⟩)), (37, .slice CA cs.length cc), (38, .int .i64 ((cs.length : Nat) : Int)), (39, .int .i64 ((k : Nat) : Int))] [blk b_3 87 [.string nm, .slice CA cs.length cc, .slice OA no oc, .string cm, .slice S1 cs.length c1, .slice none 0 0], row kInt 3 S1 c1 xs, blk b_2 33 [.int .i64 t.kind, .int .i64 t.n, .slice TA t.kids.length tc], blk b_1 25 [.string nm, .slice CA cs.length cc, .slice OA no oc, .string cm], rd kContact CA cc cs, rd kTree TA tc t.kids, cellsAt ⟨0, 0, none⟩ (loadsT.map (Value.int .i64)), cellsAt ⟨1, 0, none⟩ (joinsT.map (Value.int .i64)), cellsAt ⟨2, 0, none⟩ (popsT.map (Value.int .i64))]
  refine WC.seq ?_
  refine WC.region ?_
  refine WL.quiet (Qt.lss rfl rfl) rfl rfl ?_
  refine WL.nil ?_
  refine WX.next ?_
  refine WC.seq ?_
  refine WC.condD rfl (fun hc_2 => ?_) (fun hc_2 => ?_)
  ·
   refine WC.skip ?_
   refine WX.next ?_
   refine WC.seq ?_
   refine WC.block ?_
   refine WC.seq ?_
   refine WC.region ?_
   refine WL.quiet (Qt.move rfl) rfl rfl ?_
   have hj_1 : k < cs.length := by omega
   refine WL.learn 4 rfl (rd_at k hj_1 (vContact _)) ?_
   rintro ⟨p_1, ⟨⟩⟩ hA_1
   refine WL.quiet (Qt.indexAddrE k hA_1 Tryz.underlying22 ti56 rfl rfl (by first | assumption | omega)) rfl rfl ?_
   refine WL.quiet (Qt.loadCA (p := p_1.add (k * 5)) (o := 0) 0 rfl ta56 ti56 rfl rfl) rfl rfl ?_
   refine WL.loud (.nil) (Ld.alloc ti56 rfl) trivial rfl ?_
   rintro _ _ ⟨b_4, rfl, rfl⟩
   refine WL.quiet (Qt.assign rfl) rfl rfl ?_
   refine WL.loud (.take 0 rfl (.nil)) (Ld.store ti56 rfl rfl rfl rfl rfl rfl) trivial rfl ?_
   rintro _ _ rfl
   refine WL.nil ?_
   refine WX.next ?_
   refine WC.seq ?_
   have hjk : k < cs.length := by omega
   have hsn : slotN cs k ≤ cs.length := Nat.le_trans List.countP_le_length (by rw [List.length_take]; omega)
   have hxl : xs.length = cs.length := by rw [hxs, slotsP_len]
   refine WC.region ?_
   refine WL.quiet (Qt.loadBA 0 rfl ta56 ti56 rfl rfl) rfl rfl ?_
   refine WL.call (.nil) (Cl.func cb29 rfl) (seesW (cs[k])) trivial rfl ?_
   rintro _ _ ⟨rfl, rfl⟩
   refine WL.nil ?_
   refine WX.next ?_
   refine WC.cond rfl (fun hc_3 => ?_) (fun hc_3 => ?_)
   ·
    refine WC.seq ?_
    refine WC.turn (.take 3 rfl (.nil)) (row_open (by omega)) ?_
    rintro _ ⟨b_5, cur_1, rfl, rfl⟩
    refine WC.region ?_
    refine WL.quiet (Qt.move rfl) rfl rfl ?_
    refine WL.quiet (Qt.nilCheck rfl) rfl rfl ?_
    refine WL.quiet (Qt.fieldAddrB tf87_1 rfl) rfl rfl ?_
    refine WL.quiet (Qt.loadB 3 rfl ta85 rfl rfl) rfl rfl ?_
    refine WL.quiet (Qt.move rfl) rfl rfl ?_
    refine WL.quiet (Qt.move rfl) rfl rfl ?_
    have hj_2 : k < xs.length := by omega
    refine WL.learn 0 rfl (rowL_at k hj_2 (vInt _)) ?_
    rintro _ hel_1
    refine WL.quiet (Qt.indexAddrB k Tryz.underlying85 ti3 rfl rfl (by first | assumption | omega)) rfl rfl ?_
    refine WL.loud (.take 0 rfl (.nil)) (Ld.storeR (j := k) (o := 0) (((slotN cs k) : Nat) : Int) (by first | assumption | omega | (simp; omega)) hel_1 ti3 rfl rfl rfl rfl rfl rfl (fun S w h => rfl)) trivial rfl ?_
    rintro _ _ ⟨cur_2, hel_2, hoth_1, rfl⟩
    refine WL.turn (.take 0 rfl (.nil)) (row_close) ?_
    rintro _ rfl
    refine WL.nil ?_
    refine WX.next ?_
    refine WC.region ?_
    refine WL.quiet (Qt.move rfl) rfl rfl ?_
    refine WL.quiet (Qt.add rfl rfl (by omega)) rfl rfl ?_
    refine WL.quiet (Qt.assign rfl) rfl rfl ?_
    refine WL.nil ?_
    refine WX.block_end ?_
    refine WX.next ?_
    refine WC.region ?_
    refine WL.quiet (Qt.add rfl rfl (by omega)) rfl rfl ?_
    refine WL.quiet (Qt.move rfl) rfl rfl ?_
    refine WL.nil ?_
    exact WX.back (k + 1, (some ⟨b_5, 0, none⟩), c1, xs.set k (((slotN cs k) : Nat) : Int)) ⟨by omega, by rw [hxs]; exact slotsP_edge hjk (by simpa using hc_3)⟩ (by first | omega | (dsimp only; omega) | (simp; omega)) ⟨(by first | rfl | (refine congrArg some (congrArg (Value.int .i64) ?_); show _ = ((slotN cs (k + 1) : Nat) : Int); have := slotN_succ cs k hjk; rw [if_pos (by simpa using hc_3)] at this; omega)), (by first | rfl | (refine congrArg some (congrArg (Value.int .i64) ?_); show _ = ((slotN cs (k + 1) : Nat) : Int); have := slotN_succ cs k hjk; rw [if_pos (by simpa using hc_3)] at this; omega)), (by first | rfl | (refine congrArg some (congrArg (Value.int .i64) ?_); show _ = ((slotN cs (k + 1) : Nat) : Int); have := slotN_succ cs k hjk; rw [if_pos (by simpa using hc_3)] at this; omega)), (by first | rfl | (refine congrArg some (congrArg (Value.int .i64) ?_); show _ = ((slotN cs (k + 1) : Nat) : Int); have := slotN_succ cs k hjk; rw [if_pos (by simpa using hc_3)] at this; omega)), (by first | rfl | (refine congrArg some (congrArg (Value.int .i64) ?_); show _ = ((slotN cs (k + 1) : Nat) : Int); have := slotN_succ cs k hjk; rw [if_pos (by simpa using hc_3)] at this; omega)), (by first | rfl | (refine congrArg some (congrArg (Value.int .i64) ?_); show _ = ((slotN cs (k + 1) : Nat) : Int); have := slotN_succ cs k hjk; rw [if_pos (by simpa using hc_3)] at this; omega)), (by first | rfl | (refine congrArg some (congrArg (Value.int .i64) ?_); show _ = ((slotN cs (k + 1) : Nat) : Int); have := slotN_succ cs k hjk; rw [if_pos (by simpa using hc_3)] at this; omega)), (by first | rfl | (refine congrArg some (congrArg (Value.int .i64) ?_); show _ = ((slotN cs (k + 1) : Nat) : Int); have := slotN_succ cs k hjk; rw [if_pos (by simpa using hc_3)] at this; omega)), trivial⟩ (.take 3 rfl (.take 0 rfl (.take 2 rfl (.take 2 rfl (.u 2 rfl (.u 3 rfl (.u 4 rfl (.u 5 rfl (.u 6 rfl (.nil))))))))))
   ·
    refine WC.skip ?_
    refine WX.block_end ?_
    refine WX.next ?_
    refine WC.region ?_
    refine WL.quiet (Qt.add rfl rfl (by omega)) rfl rfl ?_
    refine WL.quiet (Qt.move rfl) rfl rfl ?_
    refine WL.nil ?_
    exact WX.back (k + 1, S1, c1, xs) ⟨by omega, by rw [hxs]; exact slotsP_no hjk (by simpa using hc_3)⟩ (by first | omega | (dsimp only; omega) | (simp; omega)) ⟨(by first | rfl | (refine congrArg some (congrArg (Value.int .i64) ?_); show _ = ((slotN cs (k + 1) : Nat) : Int); have := slotN_succ cs k hjk; rw [if_neg (by simpa using hc_3)] at this; omega)), (by first | rfl | (refine congrArg some (congrArg (Value.int .i64) ?_); show _ = ((slotN cs (k + 1) : Nat) : Int); have := slotN_succ cs k hjk; rw [if_neg (by simpa using hc_3)] at this; omega)), (by first | rfl | (refine congrArg some (congrArg (Value.int .i64) ?_); show _ = ((slotN cs (k + 1) : Nat) : Int); have := slotN_succ cs k hjk; rw [if_neg (by simpa using hc_3)] at this; omega)), (by first | rfl | (refine congrArg some (congrArg (Value.int .i64) ?_); show _ = ((slotN cs (k + 1) : Nat) : Int); have := slotN_succ cs k hjk; rw [if_neg (by simpa using hc_3)] at this; omega)), (by first | rfl | (refine congrArg some (congrArg (Value.int .i64) ?_); show _ = ((slotN cs (k + 1) : Nat) : Int); have := slotN_succ cs k hjk; rw [if_neg (by simpa using hc_3)] at this; omega)), (by first | rfl | (refine congrArg some (congrArg (Value.int .i64) ?_); show _ = ((slotN cs (k + 1) : Nat) : Int); have := slotN_succ cs k hjk; rw [if_neg (by simpa using hc_3)] at this; omega)), (by first | rfl | (refine congrArg some (congrArg (Value.int .i64) ?_); show _ = ((slotN cs (k + 1) : Nat) : Int); have := slotN_succ cs k hjk; rw [if_neg (by simpa using hc_3)] at this; omega)), (by first | rfl | (refine congrArg some (congrArg (Value.int .i64) ?_); show _ = ((slotN cs (k + 1) : Nat) : Int); have := slotN_succ cs k hjk; rw [if_neg (by simpa using hc_3)] at this; omega)), trivial⟩ (.take 2 rfl (.take 2 rfl (.take 2 rfl (.take 2 rfl (.u 2 rfl (.u 3 rfl (.u 4 rfl (.u 5 rfl (.u 6 rfl (.nil))))))))))
  ·
   refine WC.exit ?_
   refine WX.pass_exit ?_
   refine WX.pass_exit ?_
   refine WX.block_exit ?_
   refine WX.next ?_
   refine WC.seq ?_
   have hks : k = cs.length := by omega
   rw [hks, slotsP_all] at hxs
   subst hxs
   refine WC.turn (.take 1 rfl (.nil)) (freeze_row) ?_
   rintro _ rfl
   refine WC.turn (.nil) (nil_row (e := kIns) (t := 49)) ?_
   rintro _ rfl
   refine WC.region ?_
   refine WL.quiet (Qt.move rfl) rfl rfl ?_
   refine WL.quiet (Qt.loadBA 3 rfl ta33 ti33 rfl rfl) rfl rfl ?_
   refine WL.call (.take 2 rfl (.take 0 rfl (.u 3 rfl (.u 0 rfl (.u 4 rfl (.u 5 rfl (.u 6 rfl (.u 7 rfl (.nil))))))))) (Cl.func cb30 rfl) (layW t cs [] _ _ _ _ _ _ _ _ _ _ _ _ _ _ (LayOk.of hv.1) hkc (by simp only [List.length_nil]; omega)) trivial rfl ?_
   rintro _ _ ⟨A_2, c_1, rfl, rfl⟩
   refine WL.nil ?_
   refine WX.next ?_
   refine WC.seq ?_
   refine WC.region ?_
   refine WL.quiet (Qt.move rfl) rfl rfl ?_
   refine WL.quiet (Qt.nilCheck rfl) rfl rfl ?_
   refine WL.quiet (Qt.fieldAddrB tf87_2 rfl) rfl rfl ?_
   refine WL.quiet (Qt.loadB 0 rfl ta39 rfl rfl) rfl rfl ?_
   refine WL.quiet (Qt.assign rfl) rfl rfl ?_
   refine WL.quiet (Qt.assign rfl) rfl rfl ?_
   refine WL.nil ?_
   refine WX.next ?_
   refine WC.ret ?_
   refine WX.ret2 (.take 1 rfl (.nil)) rfl rfl rfl ?_
   exact ⟨A_2, c_1, rfl, rfl⟩

end Go.Proofs.YtolggjmgfijjfaaGreatDoor.Sep

/- A walk, printed by gen.py out of hints. -/
namespace Go.Proofs.YtolggjmgfijjfaaGreatDoor.Sep
open Go
variable {μ : Prop}
theorem contacts17W (A1 A2 : Option Addr) (c1 c2 : Nat)  : Spec μ Tryz.prog 64 #[.agg [.string (⟨#[]⟩ : ByteArray), .slice A1 2 c1, .slice A2 1 c2, .string (⟨#[]⟩ : ByteArray)].toArray, .int .i64 0] [rd kContact A1 c1 ex17, cellsAt ⟨0, 0, none⟩ (loadsT.map (Value.int .i64)), cellsAt ⟨1, 0, none⟩ (joinsT.map (Value.int .i64)), cellsAt ⟨2, 0, none⟩ (popsT.map (Value.int .i64))] fun v Δ => ∃ A c, v = .tuple #[.slice A 2 c, .int .i64 0] ∧ Δ = [rd kIns A c [Ins.mk 0 0 0 0, Ins.mk 3 0 1 0]] := by
 refine Spec.of_body (n := 57) Tryz.func64 rfl rfl rfl fun w0 S0 O0 => ?_
 show WC _ _ _ _ _ _ [(0, .agg [.string (⟨#[]⟩ : ByteArray), .slice A1 2 c1, .slice A2 1 c2, .string (⟨#[]⟩ : ByteArray)].toArray), (1, .int .i64 0)] [rd kContact A1 c1 ex17, cellsAt ⟨0, 0, none⟩ (loadsT.map (Value.int .i64)), cellsAt ⟨1, 0, none⟩ (joinsT.map (Value.int .i64)), cellsAt ⟨2, 0, none⟩ (popsT.map (Value.int .i64))]
 refine WC.seq ?_
 refine WC.region ?_
 refine WL.loud (.nil) (Ld.box rfl rfl) trivial rfl ?_
 rintro _ _ ⟨b_1, rfl, rfl⟩
 refine WL.quiet (Qt.assign rfl) rfl rfl ?_
 refine WL.quiet (Qt.assign rfl) rfl rfl ?_
 refine WL.nil ?_
 refine WX.next ?_
 refine WC.seq ?_
 refine WC.region ?_
 refine WL.quiet (Qt.loadBA 0 rfl ta25 ti25 rfl rfl) rfl rfl ?_
 refine WL.call (.u 1 rfl (.nil)) (Cl.func cb6 rfl) (reduceW ex17 _ _ _ _ _ _ _ (by decide)) trivial rfl ?_
 rintro _ _ ⟨e_1, u_1, A_1, c_1, rfl, rfl, hred_1⟩
 obtain ⟨hre, hru⟩ := alive17 hred_1
 subst hre
 subst hru
 refine WL.quiet (Qt.move rfl) rfl rfl ?_
 refine WL.quiet (Qt.extract rfl rfl) rfl rfl ?_
 refine WL.quiet (Qt.extract rfl rfl) rfl rfl ?_
 refine WL.loud (.nil) (Ld.alloc ti33 rfl) trivial rfl ?_
 rintro _ _ ⟨b_2, rfl, rfl⟩
 refine WL.loud (.take 0 rfl (.nil)) (Ld.store ti33 rfl rfl rfl rfl rfl rfl) trivial rfl ?_
 rintro _ _ rfl
 refine WL.quiet (Qt.assign rfl) rfl rfl ?_
 refine WL.nil ?_
 refine WX.next ?_
 refine WC.seq ?_
 refine WC.seq ?_
 refine WC.region ?_
 refine WL.quiet (Qt.move rfl) rfl rfl ?_
 refine WL.quiet (Qt.neq rfl rfl) rfl rfl ?_
 refine WL.nil ?_
 refine WX.next ?_
 refine WC.no rfl ?_
 refine WC.skip ?_
 refine WX.next ?_
 refine WC.seq ?_
 refine WC.region ?_
 refine WL.quiet (Qt.fieldAddrB tf25_1 rfl) rfl rfl ?_
 refine WL.quiet (Qt.loadB 2 rfl ta22 rfl rfl) rfl rfl ?_
 refine WL.quiet (Qt.lenS Tryz.underlying22 rfl) rfl rfl ?_
 refine WL.loud (.nil) (Ld.makeSlice (e := kBool) (m := 2) false Tryz.underlying26 ti4 rfl (by decide) (by decide) rfl (by decide) (fun _ _ => rfl)) trivial rfl ?_
 rintro _ _ ⟨A_2, rfl, rfl⟩
 refine WL.quiet (Qt.assign rfl) rfl rfl ?_
 refine WL.nil ?_
 refine WX.next ?_
 refine WC.seq ?_
 refine WC.seq ?_
 refine WC.turn (.take 0 rfl (.nil)) (row_open (by decide)) ?_
 rintro _ ⟨b_3, cur_1, rfl, rfl⟩
 refine WC.region ?_
 refine WL.quiet (Qt.fieldAddrB tf25_1 rfl) rfl rfl ?_
 refine WL.quiet (Qt.loadB 3 rfl ta22 rfl rfl) rfl rfl ?_
 refine WL.quiet (Qt.lenS Tryz.underlying22 rfl) rfl rfl ?_
 refine WL.quiet (Qt.move rfl) rfl rfl ?_
 refine WL.nil ?_
 refine WX.next ?_
 refine WC.block ?_
 refine WC.unroll 3 ?_
 refine WR.one ?_
 refine WC.seq ?_
 refine WC.region ?_
 refine WL.quiet (Qt.lss rfl rfl) rfl rfl ?_
 refine WL.nil ?_
 refine WX.next ?_
 refine WC.seq ?_
 refine WC.yes rfl ?_
 refine WC.skip ?_
 refine WX.next ?_
 refine WC.seq ?_
 refine WC.block ?_
 refine WC.seq ?_
 refine WC.region ?_
 refine WL.quiet (Qt.move rfl) rfl rfl ?_
 have hj_1 : 0 < ex17.length := by decide
 refine WL.learn 4 rfl (rd_at 0 hj_1 (vContact _)) ?_
 rintro ⟨p_1, ⟨⟩⟩ hA_1
 refine WL.quiet (Qt.indexAddrE 0 hA_1 Tryz.underlying22 ti56 rfl rfl (by first | assumption | omega)) rfl rfl ?_
 refine WL.quiet (Qt.loadCA (p := p_1.add (0 * 5)) (o := 0) 0 rfl ta56 ti56 rfl rfl) rfl rfl ?_
 refine WL.loud (.nil) (Ld.alloc ti56 rfl) trivial rfl ?_
 rintro _ _ ⟨b_4, rfl, rfl⟩
 refine WL.quiet (Qt.assign rfl) rfl rfl ?_
 refine WL.loud (.take 0 rfl (.nil)) (Ld.store ti56 rfl rfl rfl rfl rfl rfl) trivial rfl ?_
 rintro _ _ rfl
 refine WL.nil ?_
 refine WX.next ?_
 refine WC.region ?_
 refine WL.quiet (Qt.move rfl) rfl rfl ?_
 refine WL.quiet (Qt.move rfl) rfl rfl ?_
 refine WL.quiet (Qt.loadBA 0 rfl ta56 ti56 rfl rfl) rfl rfl ?_
 refine WL.call (.nil) (Cl.func cb29 rfl) (seesW (Contact.mk 0 0 0 (⟨#[76]⟩ : ByteArray) (⟨#[97]⟩ : ByteArray))) trivial rfl ?_
 rintro _ _ ⟨rfl, rfl⟩
 have hj_2 : 0 < (List.replicate 2 false).length := by decide
 refine WL.learn 2 rfl (rowL_at 0 hj_2 (vBool _)) ?_
 rintro _ hel_1
 refine WL.quiet (Qt.indexAddrB 0 Tryz.underlying26 ti4 rfl rfl (by first | assumption | omega)) rfl rfl ?_
 refine WL.loud (.take 2 rfl (.nil)) (Ld.storeR (j := 0) (o := 0) false (by first | assumption | omega | (simp; omega)) hel_1 ti4 rfl rfl rfl rfl rfl rfl (fun S w h => rfl)) trivial rfl ?_
 rintro _ _ ⟨cur_2, hel_2, hoth_1, rfl⟩
 refine WL.nil ?_
 refine WX.block_end ?_
 refine WX.next ?_
 refine WC.region ?_
 refine WL.quiet (Qt.to (v' := .int .i64 1) (Qt.add rfl rfl (by decide)) rfl) rfl rfl ?_
 refine WL.quiet (Qt.move rfl) rfl rfl ?_
 refine WL.nil ?_
 refine WX.again ?_
 refine WR.one ?_
 refine WC.seq ?_
 refine WC.region ?_
 refine WL.quiet (Qt.lss rfl rfl) rfl rfl ?_
 refine WL.nil ?_
 refine WX.next ?_
 refine WC.seq ?_
 refine WC.yes rfl ?_
 refine WC.skip ?_
 refine WX.next ?_
 refine WC.seq ?_
 refine WC.block ?_
 refine WC.seq ?_
 refine WC.region ?_
 refine WL.quiet (Qt.move rfl) rfl rfl ?_
 have hj_3 : 1 < ex17.length := by decide
 refine WL.learn 6 rfl (rd_at 1 hj_3 (vContact _)) ?_
 rintro ⟨p_2, ⟨⟩⟩ hA_2
 refine WL.quiet (Qt.indexAddrE 1 hA_2 Tryz.underlying22 ti56 rfl rfl (by first | assumption | omega)) rfl rfl ?_
 refine WL.quiet (Qt.loadCA (p := p_2.add (1 * 5)) (o := 0) 0 rfl ta56 ti56 rfl rfl) rfl rfl ?_
 refine WL.loud (.nil) (Ld.alloc ti56 rfl) trivial rfl ?_
 rintro _ _ ⟨b_5, rfl, rfl⟩
 refine WL.quiet (Qt.assign rfl) rfl rfl ?_
 refine WL.loud (.take 0 rfl (.nil)) (Ld.store ti56 rfl rfl rfl rfl rfl rfl) trivial rfl ?_
 rintro _ _ rfl
 refine WL.nil ?_
 refine WX.next ?_
 refine WC.region ?_
 refine WL.quiet (Qt.move rfl) rfl rfl ?_
 refine WL.quiet (Qt.move rfl) rfl rfl ?_
 refine WL.quiet (Qt.loadBA 0 rfl ta56 ti56 rfl rfl) rfl rfl ?_
 refine WL.call (.nil) (Cl.func cb29 rfl) (seesW (Contact.mk 1 0 1 (⟨#[97]⟩ : ByteArray) (⟨#[82]⟩ : ByteArray))) trivial rfl ?_
 rintro _ _ ⟨rfl, rfl⟩
 have hj_4 : 1 < ((List.replicate 2 false).set 0 false).length := by decide
 refine WL.learn 2 rfl (rowL_at 1 hj_4 (vBool _)) ?_
 rintro _ hel_3
 refine WL.quiet (Qt.indexAddrB 1 Tryz.underlying26 ti4 rfl rfl (by first | assumption | omega)) rfl rfl ?_
 refine WL.loud (.take 2 rfl (.nil)) (Ld.storeR (j := 1) (o := 0) false (by first | assumption | omega | (simp; omega)) hel_3 ti4 rfl rfl rfl rfl rfl rfl (fun S w h => rfl)) trivial rfl ?_
 rintro _ _ ⟨cur_3, hel_4, hoth_2, rfl⟩
 refine WL.nil ?_
 refine WX.block_end ?_
 refine WX.next ?_
 refine WC.region ?_
 refine WL.quiet (Qt.to (v' := .int .i64 2) (Qt.add rfl rfl (by decide)) rfl) rfl rfl ?_
 refine WL.quiet (Qt.move rfl) rfl rfl ?_
 refine WL.nil ?_
 refine WX.again ?_
 refine WR.one ?_
 refine WC.seq ?_
 refine WC.region ?_
 refine WL.quiet (Qt.lss rfl rfl) rfl rfl ?_
 refine WL.nil ?_
 refine WX.next ?_
 refine WC.seq ?_
 refine WC.no rfl ?_
 refine WC.exit ?_
 refine WX.pass_exit ?_
 refine WX.pass_exit ?_
 refine WX.block_exit ?_
 refine WX.next ?_
 refine WC.seq ?_
 refine WC.turn (.take 0 rfl (.nil)) (row_close) ?_
 rintro _ rfl
 refine WC.turn (.take 0 rfl (.nil)) (freeze_row) ?_
 rintro _ rfl
 refine WC.region ?_
 refine WL.quiet (Qt.loadBA 5 rfl ta33 ti33 rfl rfl) rfl rfl ?_
 refine WL.quiet (Qt.move rfl) rfl rfl ?_
 refine WL.call (.u 6 rfl (.u 0 rfl (.nil))) (Cl.func cb94 rfl) (stackDepth17W _ _ _ _) trivial rfl ?_
 rintro _ _ ⟨rfl, rfl⟩
 refine WL.quiet (Qt.move rfl) rfl rfl ?_
 refine WL.quiet (Qt.extract rfl rfl) rfl rfl ?_
 refine WL.quiet (Qt.extract rfl rfl) rfl rfl ?_
 refine WL.quiet (Qt.assign rfl) rfl rfl ?_
 refine WL.quiet (Qt.assign rfl) rfl rfl ?_
 refine WL.nil ?_
 refine WX.next ?_
 refine WC.seq ?_
 refine WC.block ?_
 refine WC.seq ?_
 refine WC.region ?_
 refine WL.quiet (Qt.move rfl) rfl rfl ?_
 refine WL.quiet (Qt.neq rfl rfl) rfl rfl ?_
 refine WL.quiet (Qt.assign rfl) rfl rfl ?_
 refine WL.nil ?_
 refine WX.next ?_
 refine WC.no rfl ?_
 refine WC.seq ?_
 refine WC.region ?_
 refine WL.quiet (Qt.move rfl) rfl rfl ?_
 refine WL.quiet (Qt.gtr rfl rfl) rfl rfl ?_
 refine WL.quiet (Qt.assign rfl) rfl rfl ?_
 refine WL.nil ?_
 refine WX.next ?_
 refine WC.no rfl ?_
 refine WC.skip ?_
 refine WX.block_end ?_
 refine WX.next ?_
 refine WC.seq ?_
 refine WC.region ?_
 refine WL.quiet (Qt.loadBA 7 rfl ta25 ti25 rfl rfl) rfl rfl ?_
 refine WL.quiet (Qt.loadBA 5 rfl ta33 ti33 rfl rfl) rfl rfl ?_
 refine WL.quiet (Qt.move rfl) rfl rfl ?_
 refine WL.call (.u 8 rfl (.u 6 rfl (.u 9 rfl (.u 10 rfl (.u 11 rfl (.nil)))))) (Cl.func cb8 rfl) (treeCodeW (PT.mk 1 0 [lf 0, lf 1]) ex17 _ _ _ _ _ _ _ _ _ vld17 kinds17 (by decide)) trivial rfl ?_
 rintro _ _ ⟨A_3, c_2, rfl, rfl⟩
 rw [show layC ex17 (PT.mk 1 0 [lf 0, lf 1]) = [Ins.mk 0 0 0 0, Ins.mk 3 0 1 0] from code17]
 refine WL.quiet (Qt.extract rfl rfl) rfl rfl ?_
 refine WL.quiet (Qt.extract rfl rfl) rfl rfl ?_
 refine WL.quiet (Qt.assign rfl) rfl rfl ?_
 refine WL.quiet (Qt.assign rfl) rfl rfl ?_
 refine WL.nil ?_
 refine WX.next ?_
 refine WC.ret ?_
 refine WX.turn (.take 0 rfl (.nil)) (freeze_row) ?_
 rintro _ rfl
 refine WX.ret2 (.u 0 rfl (.nil)) rfl rfl rfl ?_
 exact ⟨A_3, c_2, rfl, rfl⟩

end Go.Proofs.YtolggjmgfijjfaaGreatDoor.Sep

/- A walk, printed by gen.py out of hints. -/
namespace Go.Proofs.YtolggjmgfijjfaaGreatDoor.Sep
open Go
variable {μ : Prop}
theorem coils17W (A1 A2 : Option Addr) (c1 c2 : Nat)  : Spec μ Tryz.prog 65 #[.agg [.string (⟨#[]⟩ : ByteArray), .slice A1 2 c1, .slice A2 1 c2, .string (⟨#[]⟩ : ByteArray)].toArray] [rd kCoil A2 c2 co17, cellsAt (⟨3, 0, none⟩ : Addr) [.int .i64 11, .int .i64 12, .int .i64 13, .int .i64 14]] fun v Δ => ∃ A c, v = .tuple #[.slice A 1 c, .int .i64 0] ∧ Δ = [rd kIns A c [⟨11, 1, 0, 0⟩]] := by
 refine Spec.of_body (n := 34) Tryz.func65 rfl rfl rfl fun w0 S0 O0 => ?_
 show WC _ _ _ _ _ _ [(0, .agg [.string (⟨#[]⟩ : ByteArray), .slice A1 2 c1, .slice A2 1 c2, .string (⟨#[]⟩ : ByteArray)].toArray)] [rd kCoil A2 c2 co17, cellsAt (⟨3, 0, none⟩ : Addr) [.int .i64 11, .int .i64 12, .int .i64 13, .int .i64 14]]
 refine WC.seq ?_
 refine WC.region ?_
 refine WL.loud (.nil) (Ld.box rfl rfl) trivial rfl ?_
 rintro _ _ ⟨b_1, rfl, rfl⟩
 refine WL.quiet (Qt.assign rfl) rfl rfl ?_
 refine WL.quiet (Qt.assign rfl) rfl rfl ?_
 refine WL.nil ?_
 refine WX.next ?_
 refine WC.seq ?_
 refine WC.region ?_
 refine WL.quiet (Qt.assign rfl) rfl rfl ?_
 refine WL.nil ?_
 refine WX.next ?_
 refine WC.seq ?_
 refine WC.seq ?_
 refine WC.turn (.nil) (nil_row (e := kIns) (t := 49)) ?_
 rintro _ rfl
 refine WC.region ?_
 refine WL.quiet (Qt.fieldAddrB tf25_2 rfl) rfl rfl ?_
 refine WL.quiet (Qt.loadB 1 rfl ta23 rfl rfl) rfl rfl ?_
 refine WL.quiet (Qt.lenS Tryz.underlying23 rfl) rfl rfl ?_
 refine WL.quiet (Qt.move rfl) rfl rfl ?_
 refine WL.nil ?_
 refine WX.next ?_
 refine WC.block ?_
 refine WC.unroll 2 ?_
 refine WR.one ?_
 refine WC.seq ?_
 refine WC.region ?_
 refine WL.quiet (Qt.lss rfl rfl) rfl rfl ?_
 refine WL.nil ?_
 refine WX.next ?_
 refine WC.seq ?_
 refine WC.yes rfl ?_
 refine WC.skip ?_
 refine WX.next ?_
 refine WC.seq ?_
 refine WC.block ?_
 refine WC.seq ?_
 refine WC.region ?_
 have hj_1 : 0 < co17.length := by decide
 refine WL.learn 2 rfl (rd_at 0 hj_1 (vCoil _)) ?_
 rintro ⟨p_1, ⟨⟩⟩ hA_1
 refine WL.quiet (Qt.indexAddrE 0 hA_1 Tryz.underlying23 ti104 rfl rfl (by first | assumption | omega)) rfl rfl ?_
 refine WL.quiet (Qt.loadCA (p := p_1.add (0 * 3)) (o := 0) 0 rfl ta104 ti104 rfl rfl) rfl rfl ?_
 refine WL.loud (.nil) (Ld.alloc ti104 rfl) trivial rfl ?_
 rintro _ _ ⟨b_2, rfl, rfl⟩
 refine WL.loud (.take 0 rfl (.nil)) (Ld.store ti104 rfl rfl rfl rfl rfl rfl) trivial rfl ?_
 rintro _ _ rfl
 refine WL.nil ?_
 refine WX.next ?_
 refine WC.seq ?_
 refine WC.seq ?_
 refine WC.region ?_
 refine WL.quiet (Qt.fieldAddrB tf104_0 rfl) rfl rfl ?_
 refine WL.quiet (Qt.loadB 0 rfl ta3 rfl rfl) rfl rfl ?_
 refine WL.quiet (Qt.lss rfl rfl) rfl rfl ?_
 refine WL.quiet (Qt.move rfl) rfl rfl ?_
 refine WL.quietG 3 false rfl 17 rfl rfl (Qt.fieldAddrB tf104_0 rfl) rfl ?_
 refine WL.quietG 3 false rfl 17 rfl rfl (Qt.loadB 0 rfl ta3 rfl rfl) rfl ?_
 refine WL.quietG 3 false rfl 17 rfl rfl (Qt.geq rfl rfl) rfl ?_
 refine WL.quiet (Qt.pickF rfl rfl) rfl rfl ?_
 refine WL.nil ?_
 refine WX.next ?_
 refine WC.no rfl ?_
 refine WC.skip ?_
 refine WX.next ?_
 refine WC.calm (Calm.inBlock (Calm.then (Calm.then (Calm.inBlock (Calm.then (calm_FQ _ _)))))) fun hC => ?_
 refine WC.draw (Γq := [blk b_2 104 [.int .i64 0, .int .i64 1, .int .i64 0], cellsAt (p_1.add (0 * 3)) [.int .i64 0, .int .i64 1, .int .i64 0], blk b_1 25 [.string (⟨#[]⟩ : ByteArray), .slice A1 2 c1, .slice A2 1 c2, .string (⟨#[]⟩ : ByteArray)], rd kCoil A2 c2 co17, cellsAt (⟨3, 0, none⟩ : Addr) [.int .i64 11, .int .i64 12, .int .i64 13, .int .i64 14]]) [0, 1, 2, 3, 4, 5, 6, 7, 8, 9] mixed ?_
 refine WA.named (.take 0 rfl (.u 0 rfl (.take 2 rfl (.u 2 rfl (.u 3 rfl (.nil)))))) fun sl_1 => ?_
 refine WA.tk 0 (by kernel_rfl) rfl hC (Qt.move rfl) trivial rfl sl_1 ?_
 refine WA.tk 1 (by kernel_rfl) rfl hC (Qt.fieldAddrB tf104_0 rfl) trivial rfl sl_1 ?_
 refine WA.tk 2 (by kernel_rfl) rfl hC (Qt.loadB 0 rfl ta3 rfl rfl) trivial rfl sl_1 ?_
 refine WA.tk 3 (by kernel_rfl) rfl hC (Qt.indexArr 0 Tryz.underlying122 ti3 rfl rfl (by omega)) trivial rfl sl_1 ?_
 refine WA.tk 4 (by kernel_rfl) rfl hC (Qt.loadC (p := (⟨3, 0, none⟩ : Addr)) (o := 0) 4 rfl ta3 rfl rfl) trivial rfl sl_1 ?_
 refine WA.tk 5 (by kernel_rfl) rfl hC (Qt.fieldAddrB tf104_1 rfl) trivial rfl sl_1 ?_
 refine WA.tk 6 (by kernel_rfl) rfl hC (Qt.loadBA 0 rfl ta47 ti47 rfl rfl) trivial rfl sl_1 ?_
 refine WA.tk 7 (by kernel_rfl) rfl hC (Qt.build tp49 ti49 rfl rfl rfl) trivial rfl sl_1 ?_
 refine WA.one 8 (by kernel_rfl) ?_
 refine WO.loud rfl (.nil) (Ld.buildSlice (zs := [.int .i64 0, .int .i64 0, .int .i64 0, .int .i64 0]) Tryz.underlying39 ti49 rfl rfl (by kernel_rfl) rfl rfl) trivial rfl (by rintro _ _ ⟨b_3, rfl, rfl⟩; exact ⟨_, (.take 1 rfl (.u 1 rfl (.take 3 rfl (.u 3 rfl (.u 4 rfl (.nil))))))⟩) ?_
 rintro _ _ ⟨b_3, rfl, rfl⟩
 refine WA.one 9 (by kernel_rfl) ?_
 refine WO.loud rfl (.take 3 rfl (.take 0 rfl (.nil))) (Ld.append1 (e := kIns) (xs := []) (Ins.mk 11 1 0 0) Tryz.underlying39 ti49 rfl (by decide) (by decide) rfl rfl (by simp) (fun S w h => rfl)) trivial rfl (by rintro _ _ ⟨A_1, c_1, rfl, rfl⟩; exact ⟨_, (.take 1 rfl (.u 1 rfl (.take 2 rfl (.u 2 rfl (.u 3 rfl (.nil))))))⟩) ?_
 rintro _ _ ⟨A_1, c_1, rfl, rfl⟩
 refine WA.phase (K' := [0, 1, 2, 3, 4, 5, 6, 7, 8, 9, 10]) (Γq' := [row kIns 49 A_1 c_1 ([] ++ [(Ins.mk 11 1 0 0)]), blk b_2 104 [.int .i64 0, .int .i64 1, .int .i64 0], cellsAt (p_1.add (0 * 3)) [.int .i64 0, .int .i64 1, .int .i64 0], blk b_1 25 [.string (⟨#[]⟩ : ByteArray), .slice A1 2 c1, .slice A2 1 c2, .string (⟨#[]⟩ : ByteArray)], rd kCoil A2 c2 co17, cellsAt (⟨3, 0, none⟩ : Addr) [.int .i64 11, .int .i64 12, .int .i64 13, .int .i64 14]]) (by kernel_rfl) ?_
 refine WA.named (.take 0 rfl (.take 0 rfl (.u 0 rfl (.take 1 rfl (.u 1 rfl (.u 2 rfl (.nil))))))) fun sl_2 => ?_
 refine WA.tk 10 (by kernel_rfl) rfl hC (Qt.assign rfl) trivial rfl sl_2 ?_
 refine WA.done (by kernel_rfl) ?_
 refine WX.block_end ?_
 refine WX.next ?_
 refine WC.region ?_
 refine WL.quiet (Qt.to (v' := .int .i64 1) (Qt.add rfl rfl (by decide)) rfl) rfl rfl ?_
 refine WL.quiet (Qt.move rfl) rfl rfl ?_
 refine WL.nil ?_
 refine WX.again ?_
 refine WR.one ?_
 refine WC.seq ?_
 refine WC.region ?_
 refine WL.quiet (Qt.lss rfl rfl) rfl rfl ?_
 refine WL.nil ?_
 refine WX.next ?_
 refine WC.seq ?_
 refine WC.no rfl ?_
 refine WC.exit ?_
 refine WX.pass_exit ?_
 refine WX.pass_exit ?_
 refine WX.block_exit ?_
 refine WX.next ?_
 refine WC.seq ?_
 refine WC.region ?_
 refine WL.quiet (Qt.move rfl) rfl rfl ?_
 refine WL.quiet (Qt.assign rfl) rfl rfl ?_
 refine WL.quiet (Qt.assign rfl) rfl rfl ?_
 refine WL.nil ?_
 refine WX.next ?_
 refine WC.ret ?_
 refine WX.turn (.take 0 rfl (.nil)) (freeze_row) ?_
 rintro _ rfl
 refine WX.ret2 (.u 0 rfl (.nil)) rfl rfl rfl ?_
 exact ⟨A_1, c_1, rfl, rfl⟩

end Go.Proofs.YtolggjmgfijjfaaGreatDoor.Sep

/- A walk, printed by gen.py out of hints. -/
namespace Go.Proofs.YtolggjmgfijjfaaGreatDoor.Sep
open Go
variable {μ : Prop}
theorem seesEW (x : Contact)  : Spec μ Tryz.prog 95 #[.agg [.int .i64 x.kind, .int .i64 x.sp, .int .i64 x.n, .string x.frm, .string x.to].toArray] [] fun v Δ => v = .bool (isEdge x) ∧ Δ = [] := by
 refine Spec.of_body (n := 11) Tryz.func95 rfl rfl rfl fun w0 S0 O0 => ?_
 show WC _ _ _ _ _ _ [(0, .agg [.int .i64 x.kind, .int .i64 x.sp, .int .i64 x.n, .string x.frm, .string x.to].toArray)] []
 refine WC.seq ?_
 refine WC.region ?_
 refine WL.loud (.nil) (Ld.box rfl rfl) trivial rfl ?_
 rintro _ _ ⟨b_1, rfl, rfl⟩
 refine WL.quiet (Qt.assign rfl) rfl rfl ?_
 refine WL.nil ?_
 refine WX.next ?_
 refine WC.cut (fun _ : Unit => [(2, .bool (decide (((x.kind : Int) = 2) ∨ ((x.kind : Int) = 3))))]) (fun _ => [blk b_1 56 [.int .i64 x.kind, .int .i64 x.sp, .int .i64 x.n, .string x.frm, .string x.to]]) (fun _ => True) ?_ ?_
 ·
  refine WC.region ?_
  refine WL.quiet (Qt.fieldAddrB tf56_0 rfl) rfl rfl ?_
  refine WL.quiet (Qt.loadB 0 rfl ta3 rfl rfl) rfl rfl ?_
  refine WL.quiet (Qt.eql rfl rfl) rfl rfl ?_
  refine WL.quiet (Qt.move rfl) rfl rfl ?_
  refine WL.splitD 6 rfl rfl (fun hg_1 => ?_) (fun hg_1 => ?_)
  ·
   refine WL.skipG 3 false true rfl 6 rfl rfl rfl rfl ?_
   refine WL.skipG 3 false true rfl 6 rfl rfl rfl rfl ?_
   refine WL.skipG 3 false true rfl 6 rfl rfl rfl rfl ?_
   refine WL.quiet (Qt.pickT rfl rfl) rfl rfl ?_
   refine WL.quiet (Qt.assign rfl) rfl rfl ?_
   refine WL.nil ?_
   exact WX.cut () trivial ⟨(by rw [show decide (((x.kind : Int) = 2) ∨ ((x.kind : Int) = 3)) = true from by first | (simp [hg_1]; done) | exact decide_eq_decide.2 (by omega) | exact decide_eq_true (by omega) | exact decide_eq_false (by omega) | (simp [hg_1] <;> omega)]; rfl), trivial⟩ (.take 0 rfl (.nil))
  ·
   refine WL.quietG 3 false rfl 6 rfl rfl (Qt.fieldAddrB tf56_0 rfl) rfl ?_
   refine WL.quietG 3 false rfl 6 rfl rfl (Qt.loadB 0 rfl ta3 rfl rfl) rfl ?_
   refine WL.quietG 3 false rfl 6 rfl rfl (Qt.eql rfl rfl) rfl ?_
   refine WL.quiet (Qt.pickF rfl rfl) rfl rfl ?_
   refine WL.quiet (Qt.assign rfl) rfl rfl ?_
   refine WL.nil ?_
   exact WX.cut () trivial ⟨(by rw [show decide (((x.kind : Int) = 2) ∨ ((x.kind : Int) = 3)) = (decide ((x.kind : Int) = 3)) from by first | (simp [hg_1]; done) | exact decide_eq_decide.2 (by omega) | exact decide_eq_true (by omega) | exact decide_eq_false (by omega) | (simp [hg_1] <;> omega)]; rfl), trivial⟩ (.take 0 rfl (.nil))
 ·
  intro _ _
  show WC _ _ _ _ _ _ [(2, .bool (decide (((x.kind : Int) = 2) ∨ ((x.kind : Int) = 3))))] [blk b_1 56 [.int .i64 x.kind, .int .i64 x.sp, .int .i64 x.n, .string x.frm, .string x.to]]
  refine WC.ret ?_
  refine WX.ret1 (.nil) rfl rfl ?_
  exact ⟨rfl, rfl⟩

end Go.Proofs.YtolggjmgfijjfaaGreatDoor.Sep

/- A walk, printed by gen.py out of hints. -/
namespace Go.Proofs.YtolggjmgfijjfaaGreatDoor.Sep
open Go
variable {μ : Prop}
theorem edgeCount17W (A1 A2 : Option Addr) (c1 c2 : Nat)  : Spec μ Tryz.prog 66 #[.agg [.string (⟨#[]⟩ : ByteArray), .slice A1 2 c1, .slice A2 1 c2, .string (⟨#[]⟩ : ByteArray)].toArray] [rd kContact A1 c1 ex17] fun v Δ => v = .int .i64 0 ∧ Δ = [] := by
 refine Spec.of_body (n := 19) Tryz.func66 rfl rfl rfl fun w0 S0 O0 => ?_
 show WC _ _ _ _ _ _ [(0, .agg [.string (⟨#[]⟩ : ByteArray), .slice A1 2 c1, .slice A2 1 c2, .string (⟨#[]⟩ : ByteArray)].toArray)] [rd kContact A1 c1 ex17]
 refine WC.seq ?_
 refine WC.region ?_
 refine WL.loud (.nil) (Ld.box rfl rfl) trivial rfl ?_
 rintro _ _ ⟨b_1, rfl, rfl⟩
 refine WL.quiet (Qt.assign rfl) rfl rfl ?_
 refine WL.nil ?_
 refine WX.next ?_
 refine WC.seq ?_
 refine WC.region ?_
 refine WL.quiet (Qt.assign rfl) rfl rfl ?_
 refine WL.nil ?_
 refine WX.next ?_
 refine WC.seq ?_
 refine WC.seq ?_
 refine WC.region ?_
 refine WL.quiet (Qt.fieldAddrB tf25_1 rfl) rfl rfl ?_
 refine WL.quiet (Qt.loadB 0 rfl ta22 rfl rfl) rfl rfl ?_
 refine WL.quiet (Qt.lenS Tryz.underlying22 rfl) rfl rfl ?_
 refine WL.quiet (Qt.move rfl) rfl rfl ?_
 refine WL.nil ?_
 refine WX.next ?_
 refine WC.block ?_
 refine WC.unroll 3 ?_
 refine WR.one ?_
 refine WC.seq ?_
 refine WC.region ?_
 refine WL.quiet (Qt.lss rfl rfl) rfl rfl ?_
 refine WL.nil ?_
 refine WX.next ?_
 refine WC.seq ?_
 refine WC.yes rfl ?_
 refine WC.skip ?_
 refine WX.next ?_
 refine WC.seq ?_
 refine WC.block ?_
 refine WC.seq ?_
 refine WC.region ?_
 have hj_1 : 0 < ex17.length := by decide
 refine WL.learn 1 rfl (rd_at 0 hj_1 (vContact _)) ?_
 rintro ⟨p_1, ⟨⟩⟩ hA_1
 refine WL.quiet (Qt.indexAddrE 0 hA_1 Tryz.underlying22 ti56 rfl rfl (by first | assumption | omega)) rfl rfl ?_
 refine WL.quiet (Qt.loadCA (p := p_1.add (0 * 5)) (o := 0) 0 rfl ta56 ti56 rfl rfl) rfl rfl ?_
 refine WL.loud (.nil) (Ld.alloc ti56 rfl) trivial rfl ?_
 rintro _ _ ⟨b_2, rfl, rfl⟩
 refine WL.loud (.take 0 rfl (.nil)) (Ld.store ti56 rfl rfl rfl rfl rfl rfl) trivial rfl ?_
 rintro _ _ rfl
 refine WL.nil ?_
 refine WX.next ?_
 refine WC.seq ?_
 refine WC.region ?_
 refine WL.quiet (Qt.loadBA 0 rfl ta56 ti56 rfl rfl) rfl rfl ?_
 refine WL.call (.nil) (Cl.func cb95 rfl) (seesEW (Contact.mk 0 0 0 (⟨#[76]⟩ : ByteArray) (⟨#[97]⟩ : ByteArray))) trivial rfl ?_
 rintro _ _ ⟨rfl, rfl⟩
 refine WL.nil ?_
 refine WX.next ?_
 refine WC.no rfl ?_
 refine WC.skip ?_
 refine WX.block_end ?_
 refine WX.next ?_
 refine WC.region ?_
 refine WL.quiet (Qt.to (v' := .int .i64 1) (Qt.add rfl rfl (by decide)) rfl) rfl rfl ?_
 refine WL.quiet (Qt.move rfl) rfl rfl ?_
 refine WL.nil ?_
 refine WX.again ?_
 refine WR.one ?_
 refine WC.seq ?_
 refine WC.region ?_
 refine WL.quiet (Qt.lss rfl rfl) rfl rfl ?_
 refine WL.nil ?_
 refine WX.next ?_
 refine WC.seq ?_
 refine WC.yes rfl ?_
 refine WC.skip ?_
 refine WX.next ?_
 refine WC.seq ?_
 refine WC.block ?_
 refine WC.seq ?_
 refine WC.region ?_
 have hj_2 : 1 < ex17.length := by decide
 refine WL.learn 3 rfl (rd_at 1 hj_2 (vContact _)) ?_
 rintro ⟨p_2, ⟨⟩⟩ hA_2
 refine WL.quiet (Qt.indexAddrE 1 hA_2 Tryz.underlying22 ti56 rfl rfl (by first | assumption | omega)) rfl rfl ?_
 refine WL.quiet (Qt.loadCA (p := p_2.add (1 * 5)) (o := 0) 0 rfl ta56 ti56 rfl rfl) rfl rfl ?_
 refine WL.loud (.nil) (Ld.alloc ti56 rfl) trivial rfl ?_
 rintro _ _ ⟨b_3, rfl, rfl⟩
 refine WL.loud (.take 0 rfl (.nil)) (Ld.store ti56 rfl rfl rfl rfl rfl rfl) trivial rfl ?_
 rintro _ _ rfl
 refine WL.nil ?_
 refine WX.next ?_
 refine WC.seq ?_
 refine WC.region ?_
 refine WL.quiet (Qt.loadBA 0 rfl ta56 ti56 rfl rfl) rfl rfl ?_
 refine WL.call (.nil) (Cl.func cb95 rfl) (seesEW (Contact.mk 1 0 1 (⟨#[97]⟩ : ByteArray) (⟨#[82]⟩ : ByteArray))) trivial rfl ?_
 rintro _ _ ⟨rfl, rfl⟩
 refine WL.nil ?_
 refine WX.next ?_
 refine WC.no rfl ?_
 refine WC.skip ?_
 refine WX.block_end ?_
 refine WX.next ?_
 refine WC.region ?_
 refine WL.quiet (Qt.to (v' := .int .i64 2) (Qt.add rfl rfl (by decide)) rfl) rfl rfl ?_
 refine WL.quiet (Qt.move rfl) rfl rfl ?_
 refine WL.nil ?_
 refine WX.again ?_
 refine WR.one ?_
 refine WC.seq ?_
 refine WC.region ?_
 refine WL.quiet (Qt.lss rfl rfl) rfl rfl ?_
 refine WL.nil ?_
 refine WX.next ?_
 refine WC.seq ?_
 refine WC.no rfl ?_
 refine WC.exit ?_
 refine WX.pass_exit ?_
 refine WX.pass_exit ?_
 refine WX.block_exit ?_
 refine WX.next ?_
 refine WC.seq ?_
 refine WC.region ?_
 refine WL.quiet (Qt.move rfl) rfl rfl ?_
 refine WL.quiet (Qt.assign rfl) rfl rfl ?_
 refine WL.nil ?_
 refine WX.next ?_
 refine WC.ret ?_
 refine WX.ret1 (.nil) rfl rfl ?_
 exact ⟨rfl, rfl⟩

end Go.Proofs.YtolggjmgfijjfaaGreatDoor.Sep
