/- Texts of this proof, joined: what is of no program, and the walks of its functions -/
import Derived.Test.YtkhmbhdlfpalkaaDoorStB
set_option autoImplicit false
set_option linter.unusedVariables false
set_option linter.unusedSimpArgs false
set_option linter.unusedSectionVars false
set_option maxRecDepth 100000
/- A walk, printed by gen.py out of hints. -/
namespace Go.Proofs.YtkhmbhdlfpalkaaDoor.Sep
open Go
variable {μ : Prop}
theorem visitW_ih (m : Nat) : ∀ (n : ByteArray) (ks : List ByteArray) (U : List ByteArray) (Ed : ByteArray → ByteArray → Prop) (fid b1 b2 b3 bm : Nat) (us : List Value) (F E : Fact), unseen U ks < m → (Callable Tryd.prog fid) → (∀ k, ¬ E.own k) → (∀ n : ByteArray, Spec μ Tryd.prog fid ([Value.string n] ++ us).toArray [F, E] fun v Δ => ∃ A c l, v = .slice A l.length c ∧ Δ = [row kStr 9 A c l, F] ∧ l.length ≤ 100000 ∧ ∀ m, m ∈ l ↔ Ed n m) → (∀ x y, x ∈ U → Ed x y → y ∈ U) → (n ∈ U) → Spec μ Tryd.prog 82 #[.string n, .pointer (some ⟨b1, 0, none⟩), .pointer (some ⟨b2, 0, none⟩), .pointer (some ⟨b3, 0, none⟩)] [blk b1 89 [.map (some bm)], mp strKey Value.bool bm (trues ks), blk b2 109 [.func (.func fid) #[] us.toArray], blk b3 130 [.func (.func 82) #[] [.pointer (some ⟨b1, 0, none⟩), .pointer (some ⟨b2, 0, none⟩), .pointer (some ⟨b3, 0, none⟩)].toArray], F, E] fun v Δ => ∃ ks1, v = .tuple #[] ∧ Δ = [blk b1 89 [.map (some bm)], mp strKey Value.bool bm (trues ks1), blk b2 109 [.func (.func fid) #[] us.toArray], blk b3 130 [.func (.func 82) #[] [.pointer (some ⟨b1, 0, none⟩), .pointer (some ⟨b2, 0, none⟩), .pointer (some ⟨b3, 0, none⟩)].toArray], F] ∧ Visit Ed ks n ks1 := by
  induction m with
  | zero => exact fun n ks U Ed fid b1 b2 b3 bm us F E h => absurd h (Nat.not_lt_zero _)
  | succ m ih =>
  intro n ks U Ed fid b1 b2 b3 bm us F E hsz hcall hE hs hU hn
  refine Spec.of_body (n := 24) Tryd.func82 rfl rfl rfl fun w0 S0 O0 => ?_
  show WC _ _ _ _ _ _ [(0, .string n), (1, .pointer (some ⟨b1, 0, none⟩)), (2, .pointer (some ⟨b2, 0, none⟩)), (3, .pointer (some ⟨b3, 0, none⟩))] [blk b1 89 [.map (some bm)], mp strKey Value.bool bm (trues ks), blk b2 109 [.func (.func fid) #[] us.toArray], blk b3 130 [.func (.func 82) #[] [.pointer (some ⟨b1, 0, none⟩), .pointer (some ⟨b2, 0, none⟩), .pointer (some ⟨b3, 0, none⟩)].toArray], F, E]
  refine WC.seq ?_
  refine WC.seq ?_
  refine WC.region ?_
  refine WL.quiet (Qt.loadB 0 rfl ta89 rfl rfl) rfl rfl ?_
  refine WL.quiet (Qt.move rfl) rfl rfl ?_
  refine WL.quiet (Qt.lookup (z := false) 1 rfl Tryd.underlying89 Tryd.underlying9 ti4 rfl rfl) rfl rfl ?_
  refine WL.nil ?_
  refine WX.next ?_
  refine WC.cond rfl (fun hc_1 => ?_) (fun hc_1 => ?_)
  ·
    refine WC.ret ?_
    refine WX.pass_ret ?_
    refine WX.ret0 (.take 0 rfl (.take 0 rfl (.take 0 rfl (.take 0 rfl (.take 0 rfl (.nil)))))) rfl ?_
    exact ⟨_, rfl, rfl, Visit.seen (look_yes (k := n) (ks := ks) hc_1)⟩
  ·
    refine WC.skip ?_
    refine WX.next ?_
    refine WC.seq ?_
    refine WC.region ?_
    refine WL.quiet (Qt.loadB 0 rfl ta89 rfl rfl) rfl rfl ?_
    refine WL.quiet (Qt.move rfl) rfl rfl ?_
    refine WL.loud (.take 1 rfl (.nil)) (Ld.update Tryd.underlying89 Tryd.underlying9 rfl rfl rfl) trivial rfl ?_
    rintro _ _ rfl
    have hnew : n ∉ ks := look_no (k := n) (ks := ks) (by simpa using hc_1)
    rw [mset_new hnew]
    refine WL.nil ?_
    refine WX.next ?_
    refine WC.seq ?_
    refine WC.region ?_
    refine WL.quiet (Qt.loadB 2 rfl ta109 rfl rfl) rfl rfl ?_
    refine WL.quiet (Qt.move rfl) rfl rfl ?_
    refine WL.call (.take 4 rfl (.use 4 rfl hE (.nil))) (Cl.val hcall rfl rfl) (hs n) trivial rfl ?_
    rintro _ _ ⟨A_1, c_1, l_1, rfl, rfl, hl_1, hm_1⟩
    refine WL.turn (.take 0 rfl (.nil)) (freeze_row) ?_
    rintro _ rfl
    refine WL.quiet (Qt.lenS Tryd.underlying60 rfl) rfl rfl ?_
    refine WL.quiet (Qt.move rfl) rfl rfl ?_
    refine WL.nil ?_
    refine WX.next ?_
    refine WC.block ?_
    refine WC.loop (fun w0 : Nat × (List ByteArray) => [(3, .pointer (some ⟨b3, 0, none⟩)), (14, .slice A_1 l_1.length c_1), (15, .int .i64 ((l_1.length : Nat) : Int)), (16, .int .i64 ((w0.1 : Nat) : Int))]) (fun w0 => [rd kStr A_1 c_1 l_1, F, mp strKey Value.bool bm (trues w0.2), blk b1 89 [.map (some bm)], blk b2 109 [.func (.func fid) #[] us.toArray], blk b3 130 [.func (.func 82) #[] [.pointer (some ⟨b1, 0, none⟩), .pointer (some ⟨b2, 0, none⟩), .pointer (some ⟨b3, 0, none⟩)].toArray], E]) (fun w0 => w0.1 ≤ l_1.length ∧ VInv Ed ks n l_1 w0.1 w0.2) (fun w0 => l_1.length - w0.1) (0, ks ++ [n]) ⟨Nat.zero_le _, VInv.init⟩ ⟨rfl, rfl, rfl, rfl, trivial⟩ (.use 0 rfl (fun _ h => h) (.take 1 rfl (.take 1 rfl (.take 1 rfl (.take 1 rfl (.take 1 rfl (.use 1 rfl hE (.nil)))))))) ?_
    rintro ⟨k, ks2⟩ ⟨hk, hinv⟩
    try dsimp only at hk hinv
    show WC _ _ _ _ _ _ [(3, .pointer (some ⟨b3, 0, none⟩)), (14, .slice A_1 l_1.length c_1), (15, .int .i64 ((l_1.length : Nat) : Int)), (16, .int .i64 ((k : Nat) : Int))] [rd kStr A_1 c_1 l_1, F, mp strKey Value.bool bm (trues ks2), blk b1 89 [.map (some bm)], blk b2 109 [.func (.func fid) #[] us.toArray], blk b3 130 [.func (.func 82) #[] [.pointer (some ⟨b1, 0, none⟩), .pointer (some ⟨b2, 0, none⟩), .pointer (some ⟨b3, 0, none⟩)].toArray], E]
    refine WC.seq ?_
    refine WC.region ?_
    refine WL.quiet (Qt.lss rfl rfl) rfl rfl ?_
    refine WL.nil ?_
    refine WX.next ?_
    refine WC.seq ?_
    refine WC.condD rfl (fun hc_2 => ?_) (fun hc_2 => ?_)
    ·
      refine WC.skip ?_
      refine WX.next ?_
      refine WC.seq ?_
      refine WC.block ?_
      refine WC.seq ?_
      refine WC.region ?_
      have hj_1 : k < l_1.length := by omega
      refine WL.learn 0 rfl (rd_at k hj_1 (vStr _)) ?_
      rintro ⟨p_1, ⟨⟩⟩ hA_1
      refine WL.quiet (Qt.indexAddrE k hA_1 Tryd.underlying60 ti9 rfl rfl (by first | assumption | omega)) rfl rfl ?_
      refine WL.quiet (Qt.loadC (p := p_1.add (k * 1)) (o := 0) 0 rfl ta9 rfl rfl) rfl rfl ?_
      refine WL.quiet (Qt.assign rfl) rfl rfl ?_
      refine WL.nil ?_
      refine WX.next ?_
      refine WC.region ?_
      refine WL.quiet (Qt.loadB 6 rfl ta130 rfl rfl) rfl rfl ?_
      refine WL.quiet (Qt.move rfl) rfl rfl ?_
      refine WL.call (.take 4 rfl (.take 3 rfl (.take 3 rfl (.take 3 rfl (.take 2 rfl (.use 2 rfl hE (.nil))))))) (Cl.val cb82 rfl rfl) (ih (l_1[k]) ks2 U Ed fid b1 b2 b3 bm us F E (by have := unseen_lt (U := U) hinv.1 hn hnew hinv.2.1; omega) hcall hE hs hU (hU n _ hn ((hm_1 _).1 (List.getElem_mem _)))) trivial rfl ?_
      rintro _ _ ⟨ks_1, rfl, rfl, hv_1⟩
      refine WL.nil ?_
      refine WX.block_end ?_
      refine WX.next ?_
      refine WC.region ?_
      refine WL.quiet (Qt.add rfl rfl (by omega)) rfl rfl ?_
      refine WL.quiet (Qt.move rfl) rfl rfl ?_
      refine WL.nil ?_
      exact WX.back (k + 1, ks_1) ⟨by omega, hinv.step (by omega) ((hm_1 _).1 (List.getElem_mem _)) hv_1⟩ (by first | omega | (dsimp only; omega) | (simp; omega)) ⟨rfl, rfl, rfl, rfl, trivial⟩ (.use 6 rfl (fun _ h => h) (.take 4 rfl (.take 1 rfl (.take 0 rfl (.take 0 rfl (.take 0 rfl (.use 2 rfl hE (.nil))))))))
    ·
      refine WC.exit ?_
      refine WX.pass_exit ?_
      refine WX.pass_exit ?_
      refine WX.block_exit ?_
      refine WX.end0 (.take 3 rfl (.take 2 rfl (.take 2 rfl (.take 2 rfl (.take 1 rfl (.nil)))))) rfl ?_
      exact ⟨_, rfl, rfl, hinv.fin (by omega) fun y hy => (hm_1 y).2 hy⟩
theorem visitW (n : ByteArray) (ks : List ByteArray) (U : List ByteArray) (Ed : ByteArray → ByteArray → Prop) (fid b1 b2 b3 bm : Nat) (us : List Value) (F E : Fact) (hcall : Callable Tryd.prog fid) (hE : ∀ k, ¬ E.own k) (hs : ∀ n : ByteArray, Spec μ Tryd.prog fid ([Value.string n] ++ us).toArray [F, E] fun v Δ => ∃ A c l, v = .slice A l.length c ∧ Δ = [row kStr 9 A c l, F] ∧ l.length ≤ 100000 ∧ ∀ m, m ∈ l ↔ Ed n m) (hU : ∀ x y, x ∈ U → Ed x y → y ∈ U) (hn : n ∈ U) : Spec μ Tryd.prog 82 #[.string n, .pointer (some ⟨b1, 0, none⟩), .pointer (some ⟨b2, 0, none⟩), .pointer (some ⟨b3, 0, none⟩)] [blk b1 89 [.map (some bm)], mp strKey Value.bool bm (trues ks), blk b2 109 [.func (.func fid) #[] us.toArray], blk b3 130 [.func (.func 82) #[] [.pointer (some ⟨b1, 0, none⟩), .pointer (some ⟨b2, 0, none⟩), .pointer (some ⟨b3, 0, none⟩)].toArray], F, E] fun v Δ => ∃ ks1, v = .tuple #[] ∧ Δ = [blk b1 89 [.map (some bm)], mp strKey Value.bool bm (trues ks1), blk b2 109 [.func (.func fid) #[] us.toArray], blk b3 130 [.func (.func 82) #[] [.pointer (some ⟨b1, 0, none⟩), .pointer (some ⟨b2, 0, none⟩), .pointer (some ⟨b3, 0, none⟩)].toArray], F] ∧ Visit Ed ks n ks1 := visitW_ih _ n ks U Ed fid b1 b2 b3 bm us F E (Nat.lt_succ_self _) hcall hE hs hU hn

end Go.Proofs.YtkhmbhdlfpalkaaDoor.Sep

/- A walk, printed by gen.py out of hints. -/
namespace Go.Proofs.YtkhmbhdlfpalkaaDoor.Sep
open Go
variable {μ : Prop}
theorem unseenW (n : ByteArray) (ks : List ByteArray) (b1 bm : Nat)  : Spec μ Tryd.prog 83 #[.string n, .pointer (some ⟨b1, 0, none⟩)] [blk b1 89 [.map (some bm)], mp strKey Value.bool bm (trues ks)] fun v Δ => v = .bool (!yes (n ∈ ks)) ∧ Δ = [blk b1 89 [.map (some bm)], mp strKey Value.bool bm (trues ks)] := by
  refine Spec.of_body (n := 8) Tryd.func83 rfl rfl rfl fun w0 S0 O0 => ?_
  show WC _ _ _ _ _ _ [(0, .string n), (1, .pointer (some ⟨b1, 0, none⟩))] [blk b1 89 [.map (some bm)], mp strKey Value.bool bm (trues ks)]
  refine WC.seq ?_
  refine WC.region ?_
  refine WL.quiet (Qt.assign rfl) rfl rfl ?_
  refine WL.nil ?_
  refine WX.next ?_
  refine WC.seq ?_
  refine WC.region ?_
  refine WL.quiet (Qt.loadB 0 rfl ta89 rfl rfl) rfl rfl ?_
  refine WL.quiet (Qt.move rfl) rfl rfl ?_
  refine WL.quiet (Qt.lookup (z := false) 1 rfl Tryd.underlying89 Tryd.underlying9 ti4 rfl rfl) rfl rfl ?_
  refine WL.quiet (Qt.not rfl) rfl rfl ?_
  refine WL.quiet (Qt.assign rfl) rfl rfl ?_
  refine WL.nil ?_
  refine WX.next ?_
  refine WC.ret ?_
  refine WX.ret1 (.take 0 rfl (.take 0 rfl (.nil))) rfl rfl ?_
  exact ⟨by rw [look_is_yes], rfl⟩

end Go.Proofs.YtkhmbhdlfpalkaaDoor.Sep

/- A walk, printed by gen.py out of hints. -/
namespace Go.Proofs.YtkhmbhdlfpalkaaDoor.Sep
open Go
variable {μ : Prop}
theorem deleteFuncW (xs : List ByteArray) (b c fid : Nat) (cur us : List Value) (F E : Fact) (p : ByteArray → Bool) (hcall : Callable Tryd.prog fid) (hE : ∀ k, ¬ E.own k) (hfree : Free F) (hf : ∀ x : ByteArray, Spec μ Tryd.prog fid ([Value.string x] ++ us).toArray [F, E] fun v Δ => v = .bool (p x) ∧ Δ = [F]) : Spec μ Tryd.prog 48 #[.slice (some ⟨b, 0, none⟩) xs.length c, .func (.func fid) #[] us.toArray] [rowL kStr 9 b c xs cur, F, E] fun v Δ => ∃ cur1, v = .slice (some ⟨b, 0, none⟩) (xs.filter fun x => !p x).length c ∧ Δ = [rowL kStr 9 b c (xs.filter fun x => !p x) cur1, F] := by
  refine Spec.of_body (n := 42) Tryd.func48 rfl rfl rfl fun w0 S0 O0 => ?_
  show WC _ _ _ _ _ _ [(0, .slice (some ⟨b, 0, none⟩) xs.length c), (1, .func (.func fid) #[] us.toArray)] [rowL kStr 9 b c xs cur, F, E]
  refine WC.learn (Z := Unit) (Δ := fun _ => []) (φ := fun _ => xs.length ≤ c ∧ c ≤ 9223372036854775807) 0 rfl (fun S w h => ⟨(), rowL_bounds h, nofacts⟩) ?_
  rintro _ ⟨hb_1, hb_2⟩
  refine WC.seq ?_
  refine WC.region ?_
  refine WL.quiet (Qt.assign rfl) rfl rfl ?_
  refine WL.nil ?_
  refine WX.next ?_
  refine WC.seq ?_
  refine WC.region ?_
  refine WL.quiet (Qt.move rfl) rfl rfl ?_
  refine WL.quiet (Qt.move rfl) rfl rfl ?_
  refine WL.call (.take 0 rfl (.take 0 rfl (.use 0 rfl hE (.nil)))) (Cl.func cb40 rfl) (Spec.borrow (e := kStr) (Γp := [F]) (U := [E]) (fun X hX => by obtain rfl := List.mem_singleton.1 hX; exact hfree) (fun X hX => by obtain rfl := List.mem_singleton.1 hX; exact hE) (fun S w h => h) (indexStrW xs _ _ fid us F E p hcall hE (fun k hk => hf xs[k]))) trivial rfl ?_
  rintro _ _ ⟨rfl, rfl⟩
  refine WL.quiet (Qt.assign rfl) rfl rfl ?_
  refine WL.nil ?_
  refine WX.next ?_
  refine WC.seq ?_
  refine WC.seq ?_
  refine WC.region ?_
  refine WL.quiet (Qt.move rfl) rfl rfl ?_
  refine WL.quiet (Qt.eql rfl rfl) rfl rfl ?_
  refine WL.nil ?_
  refine WX.next ?_
  refine WC.condD rfl (fun hc_1 => ?_) (fun hc_1 => ?_)
  ·
    refine WC.seq ?_
    refine WC.region ?_
    refine WL.quiet (Qt.move rfl) rfl rfl ?_
    refine WL.quiet (Qt.assign rfl) rfl rfl ?_
    refine WL.nil ?_
    refine WX.next ?_
    refine WC.ret ?_
    refine WX.pass_ret ?_
    rw [show xs.filter (fun x => !p x) = xs from del_none (by omega)]
    refine WX.ret1 (.take 0 rfl (.take 0 rfl (.nil))) rfl rfl ?_
    exact ⟨_, rfl, rfl⟩
  ·
    refine WC.skip ?_
    refine WX.next ?_
    refine WC.seq ?_
    refine WC.seq ?_
    have hge := idxF_ge p xs
    obtain ⟨i0, hi0, hie, hip, hib⟩ := idxF_first (p := p) (xs := xs) (by omega)
    rw [hie]
    refine WC.region ?_
    refine WL.quiet (Qt.move rfl) rfl rfl ?_
    refine WL.quiet (Qt.add rfl rfl (by omega)) rfl rfl ?_
    refine WL.quiet (Qt.assign rfl) rfl rfl ?_
    refine WL.nil ?_
    refine WX.next ?_
    refine WC.block ?_
    refine WC.loop (fun w0 : Nat × Nat × (List ByteArray) × (List Value) => [(0, .slice (some ⟨b, 0, none⟩) xs.length c), (1, .func (.func fid) #[] us.toArray), (4, .slice none 0 0), (5, .int .i64 ((w0.1 : Nat) : Int)), (6, .int .i64 ((w0.2.1 : Nat) : Int))]) (fun w0 => [rowL kStr 9 b c w0.2.2.1 w0.2.2.2, F, E]) (fun w0 => DelInv p xs w0.2.2.1 w0.1 w0.2.1) (fun w0 => xs.length - w0.2.1) (i0, i0 + 1, xs, cur) (DelInv.init hi0 hip hib) ⟨rfl, rfl, rfl, rfl, rfl, trivial⟩ (.take 0 rfl (.take 0 rfl (.use 0 rfl hE (.nil)))) ?_
    rintro ⟨i, j, ys, cu⟩ hinv
    try dsimp only at hinv
    have hyl := hinv.1
    have hij := hinv.2.1
    have hjl := hinv.2.2.1
    show WC _ _ _ _ _ _ [(0, .slice (some ⟨b, 0, none⟩) xs.length c), (1, .func (.func fid) #[] us.toArray), (4, .slice none 0 0), (5, .int .i64 ((i : Nat) : Int)), (6, .int .i64 ((j : Nat) : Int))] [rowL kStr 9 b c ys cu, F, E]
    refine WC.seq ?_
    refine WC.seq ?_
    refine WC.region ?_
    refine WL.quiet (Qt.move rfl) rfl rfl ?_
    refine WL.quiet (Qt.move rfl) rfl rfl ?_
    refine WL.quiet (Qt.lenS Tryd.underlying60 rfl) rfl rfl ?_
    refine WL.quiet (Qt.lss rfl rfl) rfl rfl ?_
    refine WL.nil ?_
    refine WX.next ?_
    refine WC.condD rfl (fun hc_2 => ?_) (fun hc_2 => ?_)
    ·
      refine WC.skip ?_
      refine WX.next ?_
      refine WC.seq ?_
      refine WC.block ?_
      refine WC.seq ?_
      refine WC.region ?_
      refine WL.quiet (Qt.move rfl) rfl rfl ?_
      refine WL.quiet (Qt.move rfl) rfl rfl ?_
      have hj_1 : j < ys.length := by omega
      refine WL.learn 0 rfl (rowL_at j hj_1 (vStr _)) ?_
      rintro _ hel_1
      refine WL.quiet (Qt.indexAddrB j Tryd.underlying60 ti9 rfl rfl (by first | assumption | omega)) rfl rfl ?_
      refine WL.quiet (Qt.loadR (j := j) (o := 0) 0 rfl hel_1 ta9 rfl rfl) rfl rfl ?_
      refine WL.quiet (Qt.assign rfl) rfl rfl ?_
      refine WL.nil ?_
      refine WX.next ?_
      refine WC.seq ?_
      refine WC.region ?_
      refine WL.quiet (Qt.move rfl) rfl rfl ?_
      refine WL.quiet (Qt.move rfl) rfl rfl ?_
      refine WL.call (.take 1 rfl (.use 1 rfl hE (.nil))) (Cl.val hcall rfl rfl) (hf (ys[j])) trivial rfl ?_
      rintro _ _ ⟨rfl, rfl⟩
      refine WL.quiet (Qt.not rfl) rfl rfl ?_
      refine WL.nil ?_
      refine WX.next ?_
      refine WC.cond rfl (fun hc_3 => ?_) (fun hc_3 => ?_)
      ·
        have hp : p ys[j] = false := by simpa using hc_3
        refine WC.seq ?_
        refine WC.region ?_
        refine WL.quiet (Qt.move rfl) rfl rfl ?_
        refine WL.quiet (Qt.move rfl) rfl rfl ?_
        refine WL.quiet (Qt.move rfl) rfl rfl ?_
        have hj_2 : i < ys.length := by omega
        refine WL.learn 1 rfl (rowL_at i hj_2 (vStr _)) ?_
        rintro _ hel_2
        refine WL.quiet (Qt.indexAddrB i Tryd.underlying60 ti9 rfl rfl (by first | assumption | omega)) rfl rfl ?_
        refine WL.loud (.take 1 rfl (.nil)) (Ld.storeR (j := i) (o := 0) (ys[j]) (by first | assumption | omega | (simp; omega)) hel_2 ti9 rfl rfl rfl rfl rfl rfl (fun S w h => rfl)) trivial rfl ?_
        rintro _ _ ⟨cur_1, hel_3, hoth_1, rfl⟩
        refine WL.nil ?_
        refine WX.next ?_
        refine WC.region ?_
        refine WL.quiet (Qt.move rfl) rfl rfl ?_
        refine WL.quiet (Qt.add rfl rfl (by omega)) rfl rfl ?_
        refine WL.quiet (Qt.assign rfl) rfl rfl ?_
        refine WL.nil ?_
        refine WX.block_end ?_
        refine WX.next ?_
        refine WC.region ?_
        refine WL.quiet (Qt.move rfl) rfl rfl ?_
        refine WL.quiet (Qt.add rfl rfl (by omega)) rfl rfl ?_
        refine WL.quiet (Qt.assign rfl) rfl rfl ?_
        refine WL.nil ?_
        exact WX.back (i + 1, j + 1, ys.set i (ys[j]), cur_1) (by first | exact hinv.keep (by omega) hp | exact hinv.drop (by omega) hp) (by first | omega | (dsimp only; omega)) ⟨rfl, rfl, rfl, rfl, rfl, trivial⟩ (.take 0 rfl (.take 0 rfl (.use 0 rfl hE (.nil))))
      ·
        have hp : p ys[j] = true := by simpa using hc_3
        refine WC.skip ?_
        refine WX.block_end ?_
        refine WX.next ?_
        refine WC.region ?_
        refine WL.quiet (Qt.move rfl) rfl rfl ?_
        refine WL.quiet (Qt.add rfl rfl (by omega)) rfl rfl ?_
        refine WL.quiet (Qt.assign rfl) rfl rfl ?_
        refine WL.nil ?_
        exact WX.back (i, j + 1, ys, cu) (by first | exact hinv.keep (by omega) hp | exact hinv.drop (by omega) hp) (by first | omega | (dsimp only; omega)) ⟨rfl, rfl, rfl, rfl, rfl, trivial⟩ (.take 1 rfl (.take 0 rfl (.use 0 rfl hE (.nil))))
    ·
      refine WC.exit ?_
      refine WX.pass_exit ?_
      refine WX.pass_exit ?_
      refine WX.block_exit ?_
      refine WX.next ?_
      refine WC.seq ?_
      refine WC.region ?_
      refine WL.quiet (Qt.move rfl) rfl rfl ?_
      refine WL.quiet (Qt.move rfl) rfl rfl ?_
      refine WL.turn (.take 0 rfl (.nil)) (rowL_take i) ?_
      rintro _ rfl
      refine WL.quiet (Qt.cutLowB Tryd.underlying60 ti9 rfl rfl (by omega) (by omega)) rfl rfl ?_
      refine WL.loud (.take 0 rfl (.nil)) (Ld.clearR (i := i) (m := xs.length) Tryd.underlying60 ti9 rfl rfl rfl (by rw [List.length_take]; omega) (by omega) (by omega)) trivial rfl ?_
      rintro _ _ ⟨cur_2, rfl, rfl⟩
      refine WL.nil ?_
      refine WX.next ?_
      refine WC.seq ?_
      refine WC.region ?_
      refine WL.quiet (Qt.move rfl) rfl rfl ?_
      refine WL.quiet (Qt.move rfl) rfl rfl ?_
      refine WL.quiet (Qt.cutHigh Tryd.underlying60 ti9 rfl rfl (by omega)) rfl rfl ?_
      refine WL.quiet (Qt.assign rfl) rfl rfl ?_
      refine WL.nil ?_
      refine WX.next ?_
      refine WC.ret ?_
      have hfin := hinv.fin (by omega)
      rw [hfin.1]
      obtain ⟨hfa, hfb⟩ := hfin
      subst hfb
      refine WX.ret1 (.take 0 rfl (.take 0 rfl (.nil))) rfl rfl ?_
      exact ⟨_, rfl, rfl⟩

end Go.Proofs.YtkhmbhdlfpalkaaDoor.Sep

/- A walk, printed by gen.py out of hints. -/
namespace Go.Proofs.YtkhmbhdlfpalkaaDoor.Sep
open Go
variable {μ : Prop}
theorem gatherW (cs : List Contact) (lb jp : ByteArray) (A B : Option Addr) (c nB d fid : Nat) (node : ByteArray) (us : List Value) (F E : Fact) (Ed : ByteArray → ByteArray → Prop) (hlen : cs.length ≤ 100000) (hcall : Callable Tryd.prog fid) (hE : ∀ k, ¬ E.own k) (hs : ∀ n : ByteArray, Spec μ Tryd.prog fid ([Value.string n] ++ us).toArray [F, E] fun v Δ => ∃ A c l, v = .slice A l.length c ∧ Δ = [row kStr 9 A c l, F] ∧ l.length ≤ 100000 ∧ ∀ m, m ∈ l ↔ Ed n m) (hU : ∀ x y, x ∈ nodesF cs → Ed x y → y ∈ nodesF cs) : Spec μ Tryd.prog 61 #[.agg [.string lb, .slice A cs.length c, .slice B nB d, .string jp].toArray, .string node, .func (.func fid) #[] us.toArray] [rd kContact A c cs, F, E] fun v Δ => ∃ A1 c1 l, v = .slice A1 l.length c1 ∧ Δ = [row kStr 9 A1 c1 l, F] ∧ ∀ x, x ∈ l ↔ x ∈ nodesF cs ∧ node ∈ nodesF cs ∧ RT Ed node x := by
  refine Spec.of_body (n := 24) Tryd.func61 rfl rfl rfl fun w0 S0 O0 => ?_
  show WC _ _ _ _ _ _ [(0, .agg [.string lb, .slice A cs.length c, .slice B nB d, .string jp].toArray), (1, .string node), (2, .func (.func fid) #[] us.toArray)] [rd kContact A c cs, F, E]
  refine WC.seq ?_
  refine WC.region ?_
  refine WL.loud (.nil) (Ld.box rfl rfl) trivial rfl ?_
  rintro _ _ ⟨b_1, rfl, rfl⟩
  refine WL.loud (.nil) (Ld.box rfl rfl) trivial rfl ?_
  rintro _ _ ⟨b_2, rfl, rfl⟩
  refine WL.quiet (Qt.assign rfl) rfl rfl ?_
  refine WL.nil ?_
  refine WX.next ?_
  refine WC.seq ?_
  refine WC.region ?_
  refine WL.quiet (Qt.loadBA 1 rfl ta25 ti25 rfl rfl) rfl rfl ?_
  refine WL.call (.use 2 rfl (fun _ h => h) (.nil)) (Cl.func cb39 rfl) (nodesW cs _ _ _ _ _ _ _ (by omega)) trivial rfl ?_
  rintro _ _ ⟨A_1, c_1, rfl, rfl⟩
  have hnp := nodesF_pos cs
  refine WL.turn (.take 0 rfl (.nil)) (row_open (hnp)) ?_
  rintro _ ⟨b_3, cur_1, rfl, rfl⟩
  refine WL.learn (Z := Unit) (Δ := fun _ => []) (φ := fun _ => (nodesF cs).length ≤ c_1 ∧ c_1 ≤ 9223372036854775807) 0 rfl (fun S w h => ⟨(), rowL_bounds h, nofacts⟩) ?_
  rintro _ ⟨hb_1, hb_2⟩
  refine WL.quiet (Qt.assign rfl) rfl rfl ?_
  refine WL.nil ?_
  refine WX.next ?_
  refine WC.seq ?_
  refine WC.seq ?_
  refine WC.region ?_
  refine WL.quiet (Qt.move rfl) rfl rfl ?_
  refine WL.quiet (Qt.move rfl) rfl rfl ?_
  refine WL.call (.take 0 rfl (.nil)) (Cl.func cb50 rfl) (Spec.borrow (e := kStr) (Γp := []) (U := []) (fun X hX => nomatch hX) (fun X hX => nomatch hX) (fun S w h => h) (containsW (nodesF cs) node _ _)) trivial rfl ?_
  rintro _ _ ⟨rfl, rfl⟩
  refine WL.quiet (Qt.not rfl) rfl rfl ?_
  refine WL.nil ?_
  refine WX.next ?_
  refine WC.cond rfl (fun hc_1 => ?_) (fun hc_1 => ?_)
  ·
    refine WC.seq ?_
    refine WC.region ?_
    refine WL.quiet (Qt.assign rfl) rfl rfl ?_
    refine WL.nil ?_
    refine WX.next ?_
    refine WC.ret ?_
    refine WX.pass_ret ?_
    have hnd : node ∉ nodesF cs := fun h => by simp [yes_of h] at hc_1
    refine WX.turn (.nil) (nil_row (e := kStr) (t := 9)) ?_
    rintro _ rfl
    refine WX.ret1 (.take 0 rfl (.take 4 rfl (.nil))) rfl rfl ?_
    exact ⟨_, _, [], rfl, rfl, fun x => ⟨(fun h => nomatch h), fun h => absurd h.2.1 hnd⟩⟩
  ·
    have hnd : node ∈ nodesF cs := (yes_iff _).1 (by simpa using hc_1)
    refine WC.skip ?_
    refine WX.next ?_
    refine WC.seq ?_
    refine WC.region ?_
    refine WL.loud (.nil) (Ld.makeMap (E := strKey) (V := Value.bool)) trivial rfl ?_
    rintro _ _ ⟨b_4, rfl, rfl⟩
    refine WL.loud (.nil) (Ld.alloc ti89 rfl) trivial rfl ?_
    rintro _ _ ⟨b_5, rfl, rfl⟩
    refine WL.loud (.take 0 rfl (.nil)) (Ld.store ti89 rfl rfl rfl rfl rfl rfl) trivial rfl ?_
    rintro _ _ rfl
    refine WL.nil ?_
    refine WX.next ?_
    refine WC.seq ?_
    refine WC.region ?_
    refine WL.loud (.nil) (Ld.alloc ti130 rfl) trivial rfl ?_
    rintro _ _ ⟨b_6, rfl, rfl⟩
    refine WL.nil ?_
    refine WX.next ?_
    refine WC.seq ?_
    refine WC.region ?_
    refine WL.quiet (Qt.makeFunc (vs := []) rfl rfl) rfl rfl ?_
    refine WL.loud (.take 0 rfl (.nil)) (Ld.store ti130 rfl rfl rfl rfl rfl rfl) trivial rfl ?_
    rintro _ _ rfl
    refine WL.nil ?_
    refine WX.next ?_
    refine WC.seq ?_
    refine WC.region ?_
    refine WL.quiet (Qt.loadB 0 rfl ta130 rfl rfl) rfl rfl ?_
    refine WL.quiet (Qt.move rfl) rfl rfl ?_
    refine WL.call (.take 1 rfl (.take 1 rfl (.take 2 rfl (.take 0 rfl (.take 3 rfl (.use 3 rfl hE (.nil))))))) (Cl.val cb82 rfl rfl) (visitW node [] (nodesF cs) Ed fid b_5 b_2 b_6 b_4 us F E hcall hE hs hU hnd) trivial rfl ?_
    rintro _ _ ⟨ks_1, rfl, rfl, hv_1⟩
    refine WL.nil ?_
    refine WX.next ?_
    refine WC.seq ?_
    refine WC.region ?_
    refine WL.quiet (Qt.move rfl) rfl rfl ?_
    refine WL.quiet (Qt.makeFunc (vs := []) rfl rfl) rfl rfl ?_
    refine WL.turn (.take 0 rfl (.take 0 rfl (.nil))) (conj_pack) ?_
    rintro _ rfl
    refine WL.call (.take 4 rfl (.take 0 rfl (.use 5 rfl hE (.nil)))) (Cl.func cb48 rfl) (deleteFuncW (nodesF cs) b_3 _ 83 cur_1 [.pointer (some ⟨b_5, 0, none⟩)] (conj [blk b_5 89 [.map (some b_4)], mp strKey Value.bool b_4 (trues ks_1)]) E (fun x => !yes (x ∈ ks_1)) cb83 hE (free_conj (fun X hX => by simp only [List.mem_cons, List.not_mem_nil, or_false] at hX; rcases hX with rfl | rfl <;> first | exact free_blk _ _ _ | exact free_mp _ _ _ _)) (fun x => Spec.packed (U := [blk b_5 89 [.map (some b_4)], mp strKey Value.bool b_4 (trues ks_1)]) (V := [E]) (Spec.less (.take 0 rfl (.take 0 rfl .nil)) (unseenW x ks_1 b_5 b_4)))) trivial rfl ?_
    rintro _ _ ⟨cur_2, rfl, rfl⟩
    refine WL.quiet (Qt.assign rfl) rfl rfl ?_
    refine WL.nil ?_
    refine WX.next ?_
    refine WC.ret ?_
    refine WX.turn (.take 0 rfl (.nil)) (row_close) ?_
    rintro _ rfl
    refine WX.ret1 (.take 0 rfl (.take 3 rfl (.nil))) rfl rfl ?_
    exact ⟨_, _, _, rfl, rfl, fun x => by simp [List.mem_filter, yes_iff, hv_1.all, hnd]⟩

end Go.Proofs.YtkhmbhdlfpalkaaDoor.Sep

/- A walk, printed by gen.py out of hints. -/
namespace Go.Proofs.YtkhmbhdlfpalkaaDoor.Sep
open Go
variable {μ : Prop}
theorem isFrmW (x : Contact) (node : ByteArray) (b : Nat)  : Spec μ Tryd.prog 84 #[.agg [.int .i64 x.kind, .int .i64 x.sp, .int .i64 x.n, .string x.frm, .string x.to].toArray, .pointer (some ⟨b, 0, none⟩)] [blk b 9 [.string node]] fun v Δ => v = .bool (decide (x.frm = node)) ∧ Δ = [blk b 9 [.string node]] := by
  refine Spec.of_body (n := 8) Tryd.func84 rfl rfl rfl fun w0 S0 O0 => ?_
  show WC _ _ _ _ _ _ [(0, .agg [.int .i64 x.kind, .int .i64 x.sp, .int .i64 x.n, .string x.frm, .string x.to].toArray), (1, .pointer (some ⟨b, 0, none⟩))] [blk b 9 [.string node]]
  refine WC.seq ?_
  refine WC.region ?_
  refine WL.loud (.nil) (Ld.box rfl rfl) trivial rfl ?_
  rintro _ _ ⟨b_1, rfl, rfl⟩
  refine WL.quiet (Qt.assign rfl) rfl rfl ?_
  refine WL.nil ?_
  refine WX.next ?_
  refine WC.seq ?_
  refine WC.region ?_
  refine WL.quiet (Qt.fieldAddrB tf42_2 rfl) rfl rfl ?_
  refine WL.quiet (Qt.loadB 0 rfl ta9 rfl rfl) rfl rfl ?_
  refine WL.quiet (Qt.loadB 1 rfl ta9 rfl rfl) rfl rfl ?_
  refine WL.quiet (Qt.seql rfl rfl) rfl rfl ?_
  refine WL.quiet (Qt.assign rfl) rfl rfl ?_
  refine WL.nil ?_
  refine WX.next ?_
  refine WC.ret ?_
  refine WX.ret1 (.take 1 rfl (.nil)) rfl rfl ?_
  exact ⟨rfl, rfl⟩

end Go.Proofs.YtkhmbhdlfpalkaaDoor.Sep

/- A walk, printed by gen.py out of hints. -/
namespace Go.Proofs.YtkhmbhdlfpalkaaDoor.Sep
open Go
variable {μ : Prop}
theorem outgoingW (cs : List Contact) (lb jp : ByteArray) (A B : Option Addr) (c nB d : Nat) (node : ByteArray) (hlen : cs.length ≤ 100000) : Spec μ Tryd.prog 63 #[.agg [.string lb, .slice A cs.length c, .slice B nB d, .string jp].toArray, .string node] [rd kContact A c cs] fun v Δ => ∃ A1 c1, v = .slice A1 (numI (fun c => decide (c.frm = node)) cs cs.length).length c1 ∧ Δ = [row kInt 3 A1 c1 (numI (fun c => decide (c.frm = node)) cs cs.length)] := by
  refine Spec.of_body (n := 8) Tryd.func63 rfl rfl rfl fun w0 S0 O0 => ?_
  show WC _ _ _ _ _ _ [(0, .agg [.string lb, .slice A cs.length c, .slice B nB d, .string jp].toArray), (1, .string node)] [rd kContact A c cs]
  refine WC.seq ?_
  refine WC.region ?_
  refine WL.loud (.nil) (Ld.box rfl rfl) trivial rfl ?_
  rintro _ _ ⟨b_1, rfl, rfl⟩
  refine WL.loud (.nil) (Ld.box rfl rfl) trivial rfl ?_
  rintro _ _ ⟨b_2, rfl, rfl⟩
  refine WL.quiet (Qt.assign rfl) rfl rfl ?_
  refine WL.nil ?_
  refine WX.next ?_
  refine WC.seq ?_
  refine WC.region ?_
  refine WL.quiet (Qt.loadBA 1 rfl ta25 ti25 rfl rfl) rfl rfl ?_
  refine WL.quiet (Qt.makeFunc (vs := []) rfl rfl) rfl rfl ?_
  refine WL.call (.use 2 rfl (fun _ h => h) (.take 0 rfl (.nil))) (Cl.func cb59 rfl) (numbersW cs _ _ _ _ _ _ _ 84 [.pointer (some ⟨b_2, 0, none⟩)] (blk b_2 9 [.string node]) (fun c => decide (c.frm = node)) hlen cb84 (fun k hk => isFrmW cs[k] node b_2)) trivial rfl ?_
  rintro _ _ ⟨A_1, c_1, rfl, rfl⟩
  refine WL.quiet (Qt.assign rfl) rfl rfl ?_
  refine WL.nil ?_
  refine WX.next ?_
  refine WC.ret ?_
  refine WX.ret1 (.take 0 rfl (.nil)) rfl rfl ?_
  exact ⟨_, _, rfl, rfl⟩

end Go.Proofs.YtkhmbhdlfpalkaaDoor.Sep

/- A walk, printed by gen.py out of hints. -/
namespace Go.Proofs.YtkhmbhdlfpalkaaDoor.Sep
open Go
variable {μ : Prop}
theorem stepsOutW (n : ByteArray) (cs : List Contact) (lb jp : ByteArray) (A B : Option Addr) (c nB d b : Nat) (hlen : cs.length ≤ 100000) : Spec μ Tryd.prog 62 #[.string n, .pointer (some ⟨b, 0, none⟩)] [blk b 25 [.string lb, .slice A cs.length c, .slice B nB d, .string jp], rd kContact A c cs] fun v Δ => ∃ A1 c1 l, v = .slice A1 l.length c1 ∧ Δ = [row kStr 9 A1 c1 l, blk b 25 [.string lb, .slice A cs.length c, .slice B nB d, .string jp]] ∧ l.length ≤ 100000 ∧ ∀ m, m ∈ l ↔ ∃ x, x ∈ cs ∧ x.frm = n ∧ m = x.to := by
  refine Spec.of_body (n := 26) Tryd.func62 rfl rfl rfl fun w0 S0 O0 => ?_
  show WC _ _ _ _ _ _ [(0, .string n), (1, .pointer (some ⟨b, 0, none⟩))] [blk b 25 [.string lb, .slice A cs.length c, .slice B nB d, .string jp], rd kContact A c cs]
  refine WC.learn (Z := Unit) (Δ := fun _ => []) (φ := fun _ => cs.length ≤ c ∧ c ≤ 9223372036854775807) 1 rfl (fun S w h => ⟨(), rd_bounds h, nofacts⟩) ?_
  rintro _ ⟨hb_1, hb_2⟩
  refine WC.seq ?_
  refine WC.region ?_
  refine WL.quiet (Qt.assign rfl) rfl rfl ?_
  refine WL.nil ?_
  refine WX.next ?_
  refine WC.seq ?_
  refine WC.region ?_
  refine WL.quiet (Qt.assign rfl) rfl rfl ?_
  refine WL.nil ?_
  refine WX.next ?_
  refine WC.seq ?_
  refine WC.seq ?_
  refine WC.region ?_
  refine WL.quiet (Qt.loadBA 0 rfl ta25 ti25 rfl rfl) rfl rfl ?_
  refine WL.quiet (Qt.move rfl) rfl rfl ?_
  refine WL.call (.use 1 rfl (fun _ h => h) (.nil)) (Cl.func cb63 rfl) (outgoingW cs _ _ _ _ _ _ _ n hlen) trivial rfl ?_
  rintro _ _ ⟨A_1, c_1, rfl, rfl⟩
  refine WL.turn (.take 0 rfl (.nil)) (freeze_row) ?_
  rintro _ rfl
  refine WL.quiet (Qt.lenS Tryd.underlying74 rfl) rfl rfl ?_
  refine WL.quiet (Qt.move rfl) rfl rfl ?_
  refine WL.nil ?_
  refine WX.next ?_
  refine WC.block ?_
  refine WC.turn (.nil) (nil_row (e := kStr) (t := 9)) ?_
  rintro _ rfl
  refine WC.loop (fun w0 : Nat × (Option Addr) × Nat × (List ByteArray) => [(1, .pointer (some ⟨b, 0, none⟩)), (3, .slice none 0 0), (4, .slice w0.2.1 w0.2.2.2.length w0.2.2.1), (9, .slice A_1 ((numI (fun c => decide (c.frm = n)) cs cs.length).length) c_1), (10, .int .i64 (((numI (fun c => decide (c.frm = n)) cs cs.length).length : Nat) : Int)), (11, .int .i64 ((w0.1 : Nat) : Int))]) (fun w0 => [row kStr 9 w0.2.1 w0.2.2.1 w0.2.2.2, rd kInt A_1 c_1 (numI (fun c => decide (c.frm = n)) cs cs.length), blk b 25 [.string lb, .slice A cs.length c, .slice B nB d, .string jp], rd kContact A c cs]) (fun w0 => w0.1 ≤ (numI (fun c => decide (c.frm = n)) cs cs.length).length ∧ w0.2.2.2 = nbrs (·.to) cs ((numI (fun c => decide (c.frm = n)) cs cs.length).take w0.1)) (fun w0 => (numI (fun c => decide (c.frm = n)) cs cs.length).length - w0.1) (0, none, 0, []) ⟨Nat.zero_le _, by simp [nbrs]⟩ ⟨rfl, rfl, rfl, rfl, rfl, rfl, trivial⟩ (.take 0 rfl (.use 0 rfl (fun _ h => h) (.take 1 rfl (.use 1 rfl (fun _ h => h) (.nil))))) ?_
  rintro ⟨k, A1, c1, l⟩ ⟨hk, hl⟩
  try dsimp only at hk hl
  have hll := nbrs_len (·.to) cs ((numI (fun c => decide (c.frm = n)) cs cs.length).take k)
  rw [← hl, List.length_take] at hll
  have hil := numI_len (fun c => decide (c.frm = n)) cs cs.length
  show WC _ _ _ _ _ _ [(1, .pointer (some ⟨b, 0, none⟩)), (3, .slice none 0 0), (4, .slice A1 l.length c1), (9, .slice A_1 ((numI (fun c => decide (c.frm = n)) cs cs.length).length) c_1), (10, .int .i64 (((numI (fun c => decide (c.frm = n)) cs cs.length).length : Nat) : Int)), (11, .int .i64 ((k : Nat) : Int))] [row kStr 9 A1 c1 l, rd kInt A_1 c_1 (numI (fun c => decide (c.frm = n)) cs cs.length), blk b 25 [.string lb, .slice A cs.length c, .slice B nB d, .string jp], rd kContact A c cs]
  refine WC.seq ?_
  refine WC.region ?_
  refine WL.quiet (Qt.lss rfl rfl) rfl rfl ?_
  refine WL.nil ?_
  refine WX.next ?_
  refine WC.seq ?_
  refine WC.condD rfl (fun hc_1 => ?_) (fun hc_1 => ?_)
  ·
    refine WC.skip ?_
    refine WX.next ?_
    refine WC.seq ?_
    refine WC.block ?_
    refine WC.seq ?_
    refine WC.region ?_
    have hj_1 : k < (numI (fun c => decide (c.frm = n)) cs cs.length).length := by omega
    refine WL.learn 1 rfl (rd_at k hj_1 (vInt _)) ?_
    rintro ⟨p_1, ⟨⟩⟩ hA_1
    refine WL.quiet (Qt.indexAddrE k hA_1 Tryd.underlying74 ti3 rfl rfl (by first | assumption | omega)) rfl rfl ?_
    refine WL.quiet (Qt.loadC (p := p_1.add (k * 1)) (o := 0) 0 rfl ta3 rfl rfl) rfl rfl ?_
    refine WL.quiet (Qt.assign rfl) rfl rfl ?_
    refine WL.nil ?_
    refine WX.next ?_
    obtain ⟨j, hj0, hje, hjp⟩ := numI_get (p := (fun c => decide (c.frm = n))) (cs := cs) (k := k) (by omega)
    rw [hje]
    refine WC.region ?_
    refine WL.quiet (Qt.move rfl) rfl rfl ?_
    refine WL.quiet (Qt.fieldAddrB tf25_1 rfl) rfl rfl ?_
    refine WL.quiet (Qt.loadB 3 rfl ta22 rfl rfl) rfl rfl ?_
    refine WL.quiet (Qt.move rfl) rfl rfl ?_
    have hj_2 : j < cs.length := by omega
    refine WL.learn 4 rfl (rd_at j hj_2 (vContact _)) ?_
    rintro ⟨p_2, ⟨⟩⟩ hA_2
    refine WL.quiet (Qt.indexAddrE j hA_2 Tryd.underlying22 ti42 rfl rfl (by first | assumption | omega)) rfl rfl ?_
    refine WL.quiet (Qt.fieldAddr tf42_3 rfl) rfl rfl ?_
    refine WL.quiet (Qt.loadC (p := p_2.add (j * 5)) (o := 4) 0 rfl ta9 rfl rfl) rfl rfl ?_
    refine WL.loud (.nil) (Ld.buildSlice (zs := [.string (⟨#[]⟩ : ByteArray)]) Tryd.underlying60 ti9 rfl rfl (by kernel_rfl) rfl rfl) trivial rfl ?_
    rintro _ _ ⟨b_1, rfl, rfl⟩
    refine WL.loud (.take 3 rfl (.take 0 rfl (.nil))) (Ld.append1 (e := kStr) (xs := l) (cs[j].to) Tryd.underlying60 ti9 rfl (by decide) (by decide) rfl rfl (by first | omega | (simp; omega)) (fun S w h => rfl)) trivial rfl ?_
    rintro _ _ ⟨A_2, c_2, rfl, rfl⟩
    refine WL.quiet (Qt.assign rfl) rfl rfl ?_
    refine WL.nil ?_
    refine WX.block_end ?_
    refine WX.next ?_
    refine WC.region ?_
    refine WL.quiet (Qt.add rfl rfl (by omega)) rfl rfl ?_
    refine WL.quiet (Qt.move rfl) rfl rfl ?_
    refine WL.nil ?_
    exact WX.back (k + 1, A_2, c_2, l ++ [cs[j].to]) ⟨by omega, by rw [nbrs_step _ cs _ k j (by omega) hj0 hje, ← hl]⟩ (by first | omega | (dsimp only; omega) | (simp; omega)) ⟨rfl, rfl, rfl, rfl, rfl, rfl, trivial⟩ (.take 0 rfl (.use 2 rfl (fun _ h => h) (.take 3 rfl (.use 3 rfl (fun _ h => h) (.nil)))))
  ·
    refine WC.exit ?_
    refine WX.pass_exit ?_
    refine WX.pass_exit ?_
    refine WX.block_exit ?_
    refine WX.next ?_
    refine WC.seq ?_
    refine WC.region ?_
    refine WL.quiet (Qt.move rfl) rfl rfl ?_
    refine WL.quiet (Qt.assign rfl) rfl rfl ?_
    refine WL.nil ?_
    refine WX.next ?_
    refine WC.ret ?_
    have hend : l = nbrs (·.to) cs (numI (fun c => decide (c.frm = n)) cs cs.length) := by rw [hl, List.take_of_length_le (by omega)]
    refine WX.ret1 (.take 0 rfl (.take 1 rfl (.nil))) rfl rfl ?_
    exact ⟨_, _, _, rfl, rfl, by omega, fun m => by rw [hend, nbrs_mem]; simp⟩

end Go.Proofs.YtkhmbhdlfpalkaaDoor.Sep

/- A walk, printed by gen.py out of hints. -/
namespace Go.Proofs.YtkhmbhdlfpalkaaDoor.Sep
open Go
variable {μ : Prop}
theorem reachableW (cs : List Contact) (lb jp : ByteArray) (A B : Option Addr) (c nB d : Nat) (node : ByteArray) (hlen : cs.length ≤ 100000) : Spec μ Tryd.prog 46 #[.agg [.string lb, .slice A cs.length c, .slice B nB d, .string jp].toArray, .string node] [rd kContact A c cs] fun v Δ => ∃ A1 c1 l, v = .slice A1 l.length c1 ∧ Δ = [row kStr 9 A1 c1 l] ∧ ∀ x, x ∈ l ↔ x ∈ nodesF cs ∧ node ∈ nodesF cs ∧ RT (Eout cs) node x := by
  refine Spec.of_body (n := 9) Tryd.func46 rfl rfl rfl fun w0 S0 O0 => ?_
  show WC _ _ _ _ _ _ [(0, .agg [.string lb, .slice A cs.length c, .slice B nB d, .string jp].toArray), (1, .string node)] [rd kContact A c cs]
  refine WC.seq ?_
  refine WC.region ?_
  refine WL.loud (.nil) (Ld.box rfl rfl) trivial rfl ?_
  rintro _ _ ⟨b_1, rfl, rfl⟩
  refine WL.quiet (Qt.assign rfl) rfl rfl ?_
  refine WL.nil ?_
  refine WX.next ?_
  refine WC.seq ?_
  refine WC.region ?_
  refine WL.quiet (Qt.loadBA 0 rfl ta25 ti25 rfl rfl) rfl rfl ?_
  refine WL.quiet (Qt.move rfl) rfl rfl ?_
  refine WL.quiet (Qt.makeFunc (vs := []) rfl rfl) rfl rfl ?_
  refine WL.call (.use 1 rfl (fun _ h => h) (.take 0 rfl (.use 0 rfl (fun _ h => h) (.nil)))) (Cl.func cb61 rfl) (gatherW cs _ _ _ _ _ _ _ 62 node [.pointer (some ⟨b_1, 0, none⟩)] (blk b_1 25 [.string lb, .slice A cs.length c, .slice B nB d, .string jp]) (rd kContact A c cs) (Eout cs) hlen cb62 (fun _ h => h) (fun n => stepsOutW n cs _ _ _ _ _ _ _ b_1 hlen) Eout_nodes) trivial rfl ?_
  rintro _ _ ⟨A_1, c_1, l_1, rfl, rfl, hm_1⟩
  refine WL.quiet (Qt.assign rfl) rfl rfl ?_
  refine WL.nil ?_
  refine WX.next ?_
  refine WC.ret ?_
  refine WX.ret1 (.take 0 rfl (.nil)) rfl rfl ?_
  exact ⟨_, _, _, rfl, rfl, hm_1⟩

end Go.Proofs.YtkhmbhdlfpalkaaDoor.Sep

/- A walk, printed by gen.py out of hints. -/
namespace Go.Proofs.YtkhmbhdlfpalkaaDoor.Sep
open Go
variable {μ : Prop}
theorem stepsInW (n : ByteArray) (cs : List Contact) (lb jp : ByteArray) (A B : Option Addr) (c nB d b : Nat) (hlen : cs.length ≤ 100000) : Spec μ Tryd.prog 64 #[.string n, .pointer (some ⟨b, 0, none⟩)] [blk b 25 [.string lb, .slice A cs.length c, .slice B nB d, .string jp], rd kContact A c cs] fun v Δ => ∃ A1 c1 l, v = .slice A1 l.length c1 ∧ Δ = [row kStr 9 A1 c1 l, blk b 25 [.string lb, .slice A cs.length c, .slice B nB d, .string jp]] ∧ l.length ≤ 100000 ∧ ∀ m, m ∈ l ↔ ∃ x, x ∈ cs ∧ x.to = n ∧ m = x.frm := by
  refine Spec.of_body (n := 26) Tryd.func64 rfl rfl rfl fun w0 S0 O0 => ?_
  show WC _ _ _ _ _ _ [(0, .string n), (1, .pointer (some ⟨b, 0, none⟩))] [blk b 25 [.string lb, .slice A cs.length c, .slice B nB d, .string jp], rd kContact A c cs]
  refine WC.learn (Z := Unit) (Δ := fun _ => []) (φ := fun _ => cs.length ≤ c ∧ c ≤ 9223372036854775807) 1 rfl (fun S w h => ⟨(), rd_bounds h, nofacts⟩) ?_
  rintro _ ⟨hb_1, hb_2⟩
  refine WC.seq ?_
  refine WC.region ?_
  refine WL.quiet (Qt.assign rfl) rfl rfl ?_
  refine WL.nil ?_
  refine WX.next ?_
  refine WC.seq ?_
  refine WC.region ?_
  refine WL.quiet (Qt.assign rfl) rfl rfl ?_
  refine WL.nil ?_
  refine WX.next ?_
  refine WC.seq ?_
  refine WC.seq ?_
  refine WC.region ?_
  refine WL.quiet (Qt.loadBA 0 rfl ta25 ti25 rfl rfl) rfl rfl ?_
  refine WL.quiet (Qt.move rfl) rfl rfl ?_
  refine WL.call (.use 1 rfl (fun _ h => h) (.nil)) (Cl.func cb43 rfl) (incomingW cs _ _ _ _ _ _ _ n hlen) trivial rfl ?_
  rintro _ _ ⟨A_1, c_1, rfl, rfl⟩
  refine WL.turn (.take 0 rfl (.nil)) (freeze_row) ?_
  rintro _ rfl
  refine WL.quiet (Qt.lenS Tryd.underlying74 rfl) rfl rfl ?_
  refine WL.quiet (Qt.move rfl) rfl rfl ?_
  refine WL.nil ?_
  refine WX.next ?_
  refine WC.block ?_
  refine WC.turn (.nil) (nil_row (e := kStr) (t := 9)) ?_
  rintro _ rfl
  refine WC.loop (fun w0 : Nat × (Option Addr) × Nat × (List ByteArray) => [(1, .pointer (some ⟨b, 0, none⟩)), (3, .slice none 0 0), (4, .slice w0.2.1 w0.2.2.2.length w0.2.2.1), (9, .slice A_1 ((numI (fun c => decide (c.to = n)) cs cs.length).length) c_1), (10, .int .i64 (((numI (fun c => decide (c.to = n)) cs cs.length).length : Nat) : Int)), (11, .int .i64 ((w0.1 : Nat) : Int))]) (fun w0 => [row kStr 9 w0.2.1 w0.2.2.1 w0.2.2.2, rd kInt A_1 c_1 (numI (fun c => decide (c.to = n)) cs cs.length), blk b 25 [.string lb, .slice A cs.length c, .slice B nB d, .string jp], rd kContact A c cs]) (fun w0 => w0.1 ≤ (numI (fun c => decide (c.to = n)) cs cs.length).length ∧ w0.2.2.2 = nbrs (·.frm) cs ((numI (fun c => decide (c.to = n)) cs cs.length).take w0.1)) (fun w0 => (numI (fun c => decide (c.to = n)) cs cs.length).length - w0.1) (0, none, 0, []) ⟨Nat.zero_le _, by simp [nbrs]⟩ ⟨rfl, rfl, rfl, rfl, rfl, rfl, trivial⟩ (.take 0 rfl (.use 0 rfl (fun _ h => h) (.take 1 rfl (.use 1 rfl (fun _ h => h) (.nil))))) ?_
  rintro ⟨k, A1, c1, l⟩ ⟨hk, hl⟩
  try dsimp only at hk hl
  have hll := nbrs_len (·.frm) cs ((numI (fun c => decide (c.to = n)) cs cs.length).take k)
  rw [← hl, List.length_take] at hll
  have hil := numI_len (fun c => decide (c.to = n)) cs cs.length
  show WC _ _ _ _ _ _ [(1, .pointer (some ⟨b, 0, none⟩)), (3, .slice none 0 0), (4, .slice A1 l.length c1), (9, .slice A_1 ((numI (fun c => decide (c.to = n)) cs cs.length).length) c_1), (10, .int .i64 (((numI (fun c => decide (c.to = n)) cs cs.length).length : Nat) : Int)), (11, .int .i64 ((k : Nat) : Int))] [row kStr 9 A1 c1 l, rd kInt A_1 c_1 (numI (fun c => decide (c.to = n)) cs cs.length), blk b 25 [.string lb, .slice A cs.length c, .slice B nB d, .string jp], rd kContact A c cs]
  refine WC.seq ?_
  refine WC.region ?_
  refine WL.quiet (Qt.lss rfl rfl) rfl rfl ?_
  refine WL.nil ?_
  refine WX.next ?_
  refine WC.seq ?_
  refine WC.condD rfl (fun hc_1 => ?_) (fun hc_1 => ?_)
  ·
    refine WC.skip ?_
    refine WX.next ?_
    refine WC.seq ?_
    refine WC.block ?_
    refine WC.seq ?_
    refine WC.region ?_
    have hj_1 : k < (numI (fun c => decide (c.to = n)) cs cs.length).length := by omega
    refine WL.learn 1 rfl (rd_at k hj_1 (vInt _)) ?_
    rintro ⟨p_1, ⟨⟩⟩ hA_1
    refine WL.quiet (Qt.indexAddrE k hA_1 Tryd.underlying74 ti3 rfl rfl (by first | assumption | omega)) rfl rfl ?_
    refine WL.quiet (Qt.loadC (p := p_1.add (k * 1)) (o := 0) 0 rfl ta3 rfl rfl) rfl rfl ?_
    refine WL.quiet (Qt.assign rfl) rfl rfl ?_
    refine WL.nil ?_
    refine WX.next ?_
    obtain ⟨j, hj0, hje, hjp⟩ := numI_get (p := (fun c => decide (c.to = n))) (cs := cs) (k := k) (by omega)
    rw [hje]
    refine WC.region ?_
    refine WL.quiet (Qt.move rfl) rfl rfl ?_
    refine WL.quiet (Qt.fieldAddrB tf25_1 rfl) rfl rfl ?_
    refine WL.quiet (Qt.loadB 3 rfl ta22 rfl rfl) rfl rfl ?_
    refine WL.quiet (Qt.move rfl) rfl rfl ?_
    have hj_2 : j < cs.length := by omega
    refine WL.learn 4 rfl (rd_at j hj_2 (vContact _)) ?_
    rintro ⟨p_2, ⟨⟩⟩ hA_2
    refine WL.quiet (Qt.indexAddrE j hA_2 Tryd.underlying22 ti42 rfl rfl (by first | assumption | omega)) rfl rfl ?_
    refine WL.quiet (Qt.fieldAddr tf42_2 rfl) rfl rfl ?_
    refine WL.quiet (Qt.loadC (p := p_2.add (j * 5)) (o := 3) 0 rfl ta9 rfl rfl) rfl rfl ?_
    refine WL.loud (.nil) (Ld.buildSlice (zs := [.string (⟨#[]⟩ : ByteArray)]) Tryd.underlying60 ti9 rfl rfl (by kernel_rfl) rfl rfl) trivial rfl ?_
    rintro _ _ ⟨b_1, rfl, rfl⟩
    refine WL.loud (.take 3 rfl (.take 0 rfl (.nil))) (Ld.append1 (e := kStr) (xs := l) (cs[j].frm) Tryd.underlying60 ti9 rfl (by decide) (by decide) rfl rfl (by first | omega | (simp; omega)) (fun S w h => rfl)) trivial rfl ?_
    rintro _ _ ⟨A_2, c_2, rfl, rfl⟩
    refine WL.quiet (Qt.assign rfl) rfl rfl ?_
    refine WL.nil ?_
    refine WX.block_end ?_
    refine WX.next ?_
    refine WC.region ?_
    refine WL.quiet (Qt.add rfl rfl (by omega)) rfl rfl ?_
    refine WL.quiet (Qt.move rfl) rfl rfl ?_
    refine WL.nil ?_
    exact WX.back (k + 1, A_2, c_2, l ++ [cs[j].frm]) ⟨by omega, by rw [nbrs_step _ cs _ k j (by omega) hj0 hje, ← hl]⟩ (by first | omega | (dsimp only; omega) | (simp; omega)) ⟨rfl, rfl, rfl, rfl, rfl, rfl, trivial⟩ (.take 0 rfl (.use 2 rfl (fun _ h => h) (.take 3 rfl (.use 3 rfl (fun _ h => h) (.nil)))))
  ·
    refine WC.exit ?_
    refine WX.pass_exit ?_
    refine WX.pass_exit ?_
    refine WX.block_exit ?_
    refine WX.next ?_
    refine WC.seq ?_
    refine WC.region ?_
    refine WL.quiet (Qt.move rfl) rfl rfl ?_
    refine WL.quiet (Qt.assign rfl) rfl rfl ?_
    refine WL.nil ?_
    refine WX.next ?_
    refine WC.ret ?_
    have hend : l = nbrs (·.frm) cs (numI (fun c => decide (c.to = n)) cs cs.length) := by rw [hl, List.take_of_length_le (by omega)]
    refine WX.ret1 (.take 0 rfl (.take 1 rfl (.nil))) rfl rfl ?_
    exact ⟨_, _, _, rfl, rfl, by omega, fun m => by rw [hend, nbrs_mem]; simp⟩

end Go.Proofs.YtkhmbhdlfpalkaaDoor.Sep

/- A walk, printed by gen.py out of hints. -/
namespace Go.Proofs.YtkhmbhdlfpalkaaDoor.Sep
open Go
variable {μ : Prop}
theorem ancestorsW (cs : List Contact) (lb jp : ByteArray) (A B : Option Addr) (c nB d : Nat) (node : ByteArray) (hlen : cs.length ≤ 100000) : Spec μ Tryd.prog 47 #[.agg [.string lb, .slice A cs.length c, .slice B nB d, .string jp].toArray, .string node] [rd kContact A c cs] fun v Δ => ∃ A1 c1 l, v = .slice A1 l.length c1 ∧ Δ = [row kStr 9 A1 c1 l] ∧ ∀ x, x ∈ l ↔ x ∈ nodesF cs ∧ node ∈ nodesF cs ∧ RT (Ein cs) node x := by
  refine Spec.of_body (n := 9) Tryd.func47 rfl rfl rfl fun w0 S0 O0 => ?_
  show WC _ _ _ _ _ _ [(0, .agg [.string lb, .slice A cs.length c, .slice B nB d, .string jp].toArray), (1, .string node)] [rd kContact A c cs]
  refine WC.seq ?_
  refine WC.region ?_
  refine WL.loud (.nil) (Ld.box rfl rfl) trivial rfl ?_
  rintro _ _ ⟨b_1, rfl, rfl⟩
  refine WL.quiet (Qt.assign rfl) rfl rfl ?_
  refine WL.nil ?_
  refine WX.next ?_
  refine WC.seq ?_
  refine WC.region ?_
  refine WL.quiet (Qt.loadBA 0 rfl ta25 ti25 rfl rfl) rfl rfl ?_
  refine WL.quiet (Qt.move rfl) rfl rfl ?_
  refine WL.quiet (Qt.makeFunc (vs := []) rfl rfl) rfl rfl ?_
  refine WL.call (.use 1 rfl (fun _ h => h) (.take 0 rfl (.use 0 rfl (fun _ h => h) (.nil)))) (Cl.func cb61 rfl) (gatherW cs _ _ _ _ _ _ _ 64 node [.pointer (some ⟨b_1, 0, none⟩)] (blk b_1 25 [.string lb, .slice A cs.length c, .slice B nB d, .string jp]) (rd kContact A c cs) (Ein cs) hlen cb64 (fun _ h => h) (fun n => stepsInW n cs _ _ _ _ _ _ _ b_1 hlen) Ein_nodes) trivial rfl ?_
  rintro _ _ ⟨A_1, c_1, l_1, rfl, rfl, hm_1⟩
  refine WL.quiet (Qt.assign rfl) rfl rfl ?_
  refine WL.nil ?_
  refine WX.next ?_
  refine WC.ret ?_
  refine WX.ret1 (.take 0 rfl (.nil)) rfl rfl ?_
  exact ⟨_, _, _, rfl, rfl, hm_1⟩

end Go.Proofs.YtkhmbhdlfpalkaaDoor.Sep

/- A walk, printed by gen.py out of hints. -/
namespace Go.Proofs.YtkhmbhdlfpalkaaDoor.Sep
open Go
variable {μ : Prop}
theorem inBothW (n : ByteArray) (la l2 : List ByteArray) (A B : Option Addr) (c d b3 b4 : Nat)  : Spec μ Tryd.prog 49 #[.string n, .pointer (some ⟨b3, 0, none⟩), .pointer (some ⟨b4, 0, none⟩)] [blk b3 60 [.slice A la.length c], blk b4 60 [.slice B l2.length d], rd kStr A c la, rd kStr B d l2] fun v Δ => v = .bool (yes (n ∈ la ∧ n ∈ l2)) ∧ Δ = [blk b3 60 [.slice A la.length c], blk b4 60 [.slice B l2.length d]] := by
  refine Spec.of_body (n := 13) Tryd.func49 rfl rfl rfl fun w0 S0 O0 => ?_
  show WC _ _ _ _ _ _ [(0, .string n), (1, .pointer (some ⟨b3, 0, none⟩)), (2, .pointer (some ⟨b4, 0, none⟩))] [blk b3 60 [.slice A la.length c], blk b4 60 [.slice B l2.length d], rd kStr A c la, rd kStr B d l2]
  refine WC.seq ?_
  refine WC.region ?_
  refine WL.quiet (Qt.assign rfl) rfl rfl ?_
  refine WL.nil ?_
  refine WX.next ?_
  refine WC.cut (fun _ : Unit => [(4, .bool (decide ((yes (n ∈ la) = true) ∧ (yes (n ∈ l2) = true))))]) (fun _ => [blk b3 60 [.slice A la.length c], blk b4 60 [.slice B l2.length d], rd kStr A c la, rd kStr B d l2]) (fun _ => True) ?_ ?_
  ·
    refine WC.region ?_
    refine WL.quiet (Qt.loadB 0 rfl ta60 rfl rfl) rfl rfl ?_
    refine WL.quiet (Qt.move rfl) rfl rfl ?_
    refine WL.call (.use 2 rfl (fun _ h => h) (.nil)) (Cl.func cb50 rfl) (containsW la n _ _) trivial rfl ?_
    rintro _ _ ⟨rfl, rfl⟩
    refine WL.quiet (Qt.move rfl) rfl rfl ?_
    refine WL.splitB 8 rfl rfl (fun hg_1 => ?_) (fun hg_1 => ?_)
    ·
      refine WL.quietG 3 true rfl 8 rfl rfl (Qt.loadB 1 rfl ta60 rfl rfl) rfl ?_
      refine WL.quietG 3 true rfl 8 rfl rfl (Qt.move rfl) rfl ?_
      refine WL.call (.use 3 rfl (fun _ h => h) (.nil)) (Cl.func cb50 rfl) (containsW l2 n _ _) ⟨8, rfl, rfl⟩ rfl ?_
      rintro _ _ ⟨rfl, rfl⟩
      refine WL.quiet (Qt.pickT rfl rfl) rfl rfl ?_
      refine WL.quiet (Qt.assign rfl) rfl rfl ?_
      refine WL.nil ?_
      exact WX.cut () trivial ⟨(by rw [show decide ((yes (n ∈ la) = true) ∧ (yes (n ∈ l2) = true)) = yes (n ∈ l2) from by first | (simp [hg_1]; done) | exact decide_eq_decide.2 (by omega) | exact decide_eq_true (by omega) | exact decide_eq_false (by omega) | (simp [hg_1] <;> omega)]; rfl), trivial⟩ (.take 0 rfl (.take 0 rfl (.use 0 rfl (fun _ h => h) (.use 1 rfl (fun _ h => h) (.nil)))))
    ·
      refine WL.skipG 3 true false rfl 8 rfl rfl rfl rfl ?_
      refine WL.skipG 3 true false rfl 8 rfl rfl rfl rfl ?_
      refine WL.skipG 3 true false rfl 8 rfl rfl rfl rfl ?_
      refine WL.quiet (Qt.pickF rfl rfl) rfl rfl ?_
      refine WL.quiet (Qt.assign rfl) rfl rfl ?_
      refine WL.nil ?_
      exact WX.cut () trivial ⟨(by rw [show decide ((yes (n ∈ la) = true) ∧ (yes (n ∈ l2) = true)) = false from by first | (simp [hg_1]; done) | exact decide_eq_decide.2 (by omega) | exact decide_eq_true (by omega) | exact decide_eq_false (by omega) | (simp [hg_1] <;> omega)]; rfl), trivial⟩ (.take 0 rfl (.take 0 rfl (.use 0 rfl (fun _ h => h) (.use 1 rfl (fun _ h => h) (.nil)))))
  ·
    intro _ _
    show WC _ _ _ _ _ _ [(4, .bool (decide ((yes (n ∈ la) = true) ∧ (yes (n ∈ l2) = true))))] [blk b3 60 [.slice A la.length c], blk b4 60 [.slice B l2.length d], rd kStr A c la, rd kStr B d l2]
    refine WC.ret ?_
    refine WX.ret1 (.take 0 rfl (.take 0 rfl (.nil))) rfl rfl ?_
    exact ⟨by rw [← yes_and], rfl⟩

end Go.Proofs.YtkhmbhdlfpalkaaDoor.Sep

/- A walk, printed by gen.py out of hints. -/
namespace Go.Proofs.YtkhmbhdlfpalkaaDoor.Sep
open Go
variable {μ : Prop}
theorem deadNodesW (cs : List Contact) (lb jp : ByteArray) (A B : Option Addr) (c nB d : Nat) (hlen : cs.length ≤ 100000) : Spec μ Tryd.prog 23 #[.agg [.string lb, .slice A cs.length c, .slice B nB d, .string jp].toArray] [rd kContact A c cs] fun v Δ => ∃ A1 c1 n, v = .slice A1 n c1 ∧ Δ = [] ∧ ((∀ x, x ∈ nodesF cs → RT (Eout cs) sL x ∧ RT (Ein cs) sR x) ↔ n = 0) := by
  refine Spec.of_body (n := 13) Tryd.func23 rfl rfl rfl fun w0 S0 O0 => ?_
  show WC _ _ _ _ _ _ [(0, .agg [.string lb, .slice A cs.length c, .slice B nB d, .string jp].toArray)] [rd kContact A c cs]
  refine WC.seq ?_
  refine WC.region ?_
  refine WL.loud (.nil) (Ld.box rfl rfl) trivial rfl ?_
  rintro _ _ ⟨b_1, rfl, rfl⟩
  refine WL.quiet (Qt.assign rfl) rfl rfl ?_
  refine WL.nil ?_
  refine WX.next ?_
  refine WC.cut (fun w0 : Nat × Nat × (Option Addr) × (List ByteArray) × Nat × (Option Addr) × (List ByteArray) × Nat => [(1, .pointer (some ⟨b_1, 0, none⟩)), (2, .slice none 0 0), (3, .pointer (some ⟨w0.1, 0, none⟩)), (4, .pointer (some ⟨w0.2.1, 0, none⟩))]) (fun w0 => [blk w0.2.1 60 [.slice w0.2.2.1 w0.2.2.2.1.length w0.2.2.2.2.1], blk w0.1 60 [.slice w0.2.2.2.2.2.1 w0.2.2.2.2.2.2.1.length w0.2.2.2.2.2.2.2], row kStr 9 w0.2.2.1 w0.2.2.2.2.1 w0.2.2.2.1, row kStr 9 w0.2.2.2.2.2.1 w0.2.2.2.2.2.2.2 w0.2.2.2.2.2.2.1, blk b_1 25 [.string lb, .slice A cs.length c, .slice B nB d, .string jp], rd kContact A c cs]) (fun w0 => (∀ x, x ∈ w0.2.2.2.2.2.2.1 ↔ x ∈ nodesF cs ∧ sL ∈ nodesF cs ∧ RT (Eout cs) sL x) ∧ ∀ x, x ∈ w0.2.2.2.1 ↔ x ∈ nodesF cs ∧ sR ∈ nodesF cs ∧ RT (Ein cs) sR x) ?_ ?_
  ·
    refine WC.draw (Γq := [blk b_1 25 [.string lb, .slice A cs.length c, .slice B nB d, .string jp], rd kContact A c cs]) [0, 1, 2, 3, 4, 5, 6] mixed ?_
    refine WA.take (by kernel_rfl) 0 (by decide) rfl (by kernel_rfl) (by kernel_rfl) (by kernel_rfl) (Calm.then (calm_FQ _ _)) (Qt.loadBA 0 rfl ta25 ti25 rfl rfl) trivial rfl (.take 0 rfl (.use 0 rfl (fun _ h => h) (.nil))) ?_
    refine WA.take (by kernel_rfl) 2 (by decide) rfl (by kernel_rfl) (by kernel_rfl) (by kernel_rfl) (Calm.then (calm_FQ _ _)) (Qt.loadBA 0 rfl ta25 ti25 rfl rfl) trivial rfl (.take 0 rfl (.use 0 rfl (fun _ h => h) (.nil))) ?_
    refine WA.all [1, 4, 5] (by kernel_rfl) (by simp) ?_
    intro i0 hi0
    simp only [List.mem_cons, List.not_mem_nil, or_false] at hi0
    rcases hi0 with rfl | rfl | rfl
    ·
      refine WO.call rfl (.use 1 rfl (fun _ h => h) (.nil)) (Cl.func cb46 rfl) (reachableW cs _ _ _ _ _ _ _ (⟨#[76]⟩ : ByteArray) hlen) trivial rfl (by rintro _ _ ⟨A_1, c_1, l_1, rfl, rfl, hm_1⟩; exact ⟨_, (.take 1 rfl (.use 1 rfl (fun _ h => h) (.nil)))⟩) ?_
      rintro _ _ ⟨A_1, c_1, l_1, rfl, rfl, hm_1⟩
      refine WA.all [3, 4, 5] (by kernel_rfl) (by simp) ?_
      intro i0 hi0
      simp only [List.mem_cons, List.not_mem_nil, or_false] at hi0
      rcases hi0 with rfl | rfl | rfl
      ·
        refine WO.call rfl (.use 2 rfl (fun _ h => h) (.nil)) (Cl.func cb47 rfl) (ancestorsW cs _ _ _ _ _ _ _ (⟨#[82]⟩ : ByteArray) hlen) trivial rfl (by rintro _ _ ⟨A_2, c_2, l_2, rfl, rfl, hm_2⟩; exact ⟨_, (.take 2 rfl (.use 2 rfl (fun _ h => h) (.nil)))⟩) ?_
        rintro _ _ ⟨A_2, c_2, l_2, rfl, rfl, hm_2⟩
        refine WA.two 4 5 (by kernel_rfl) ?_ ?_
        ·
          refine WO.loud rfl (.nil) (Ld.alloc ti60 rfl) trivial rfl (by rintro _ _ ⟨b_2, rfl, rfl⟩; exact ⟨_, (.take 3 rfl (.use 3 rfl (fun _ h => h) (.nil)))⟩) ?_
          rintro _ _ ⟨b_2, rfl, rfl⟩
          refine WA.one 5 (by kernel_rfl) ?_
          refine WO.loud rfl (.nil) (Ld.alloc ti60 rfl) trivial rfl (by rintro _ _ ⟨b_3, rfl, rfl⟩; exact ⟨_, (.take 4 rfl (.use 4 rfl (fun _ h => h) (.nil)))⟩) ?_
          rintro _ _ ⟨b_3, rfl, rfl⟩
          refine WA.one 6 (by kernel_rfl) ?_
          refine WO.loud rfl (.take 1 rfl (.nil)) (Ld.store ti60 rfl rfl rfl rfl rfl rfl) trivial rfl (by rintro _ _ rfl; exact ⟨_, (.take 4 rfl (.use 4 rfl (fun _ h => h) (.nil)))⟩) ?_
          rintro _ _ rfl
          refine WA.phase (K' := [0, 1, 2, 3, 4, 5, 6, 7]) (Γq' := [blk b_2 60 [.slice A_1 l_1.length c_1], row kStr 9 A_2 c_2 l_2, row kStr 9 A_1 c_1 l_1, blk b_1 25 [.string lb, .slice A cs.length c, .slice B nB d, .string jp], rd kContact A c cs]) (by kernel_rfl) ?_
          refine WA.one 7 (by kernel_rfl) ?_
          refine WO.loud rfl (.take 1 rfl (.nil)) (Ld.store ti60 rfl rfl rfl rfl rfl rfl) trivial rfl (by rintro _ _ rfl; exact ⟨_, (.take 1 rfl (.take 1 rfl (.take 1 rfl (.take 1 rfl (.use 1 rfl (fun _ h => h) (.nil))))))⟩) ?_
          rintro _ _ rfl
          refine WA.done (by kernel_rfl) ?_
          exact WX.cut (b_2, b_3, A_2, l_2, c_2, A_1, l_1, c_1) ⟨hm_1, hm_2⟩ ⟨rfl, rfl, rfl, rfl, trivial⟩ (.take 0 rfl (.take 0 rfl (.take 0 rfl (.take 0 rfl (.take 0 rfl (.use 0 rfl (fun _ h => h) (.nil)))))))
        ·
          refine WO.loud rfl (.nil) (Ld.alloc ti60 rfl) trivial rfl (by rintro _ _ ⟨b_4, rfl, rfl⟩; exact ⟨_, (.take 3 rfl (.use 3 rfl (fun _ h => h) (.nil)))⟩) ?_
          rintro _ _ ⟨b_4, rfl, rfl⟩
          refine WA.one 4 (by kernel_rfl) ?_
          refine WO.loud rfl (.nil) (Ld.alloc ti60 rfl) trivial rfl (by rintro _ _ ⟨b_5, rfl, rfl⟩; exact ⟨_, (.take 4 rfl (.use 4 rfl (fun _ h => h) (.nil)))⟩) ?_
          rintro _ _ ⟨b_5, rfl, rfl⟩
          refine WA.one 6 (by kernel_rfl) ?_
          refine WO.loud rfl (.take 0 rfl (.nil)) (Ld.store ti60 rfl rfl rfl rfl rfl rfl) trivial rfl (by rintro _ _ rfl; exact ⟨_, (.take 4 rfl (.use 4 rfl (fun _ h => h) (.nil)))⟩) ?_
          rintro _ _ rfl
          refine WA.phase (K' := [0, 1, 2, 3, 4, 5, 6, 7]) (Γq' := [blk b_5 60 [.slice A_1 l_1.length c_1], row kStr 9 A_2 c_2 l_2, row kStr 9 A_1 c_1 l_1, blk b_1 25 [.string lb, .slice A cs.length c, .slice B nB d, .string jp], rd kContact A c cs]) (by kernel_rfl) ?_
          refine WA.one 7 (by kernel_rfl) ?_
          refine WO.loud rfl (.take 1 rfl (.nil)) (Ld.store ti60 rfl rfl rfl rfl rfl rfl) trivial rfl (by rintro _ _ rfl; exact ⟨_, (.take 1 rfl (.take 1 rfl (.take 1 rfl (.take 1 rfl (.use 1 rfl (fun _ h => h) (.nil))))))⟩) ?_
          rintro _ _ rfl
          refine WA.done (by kernel_rfl) ?_
          exact WX.cut (b_5, b_4, A_2, l_2, c_2, A_1, l_1, c_1) ⟨hm_1, hm_2⟩ ⟨rfl, rfl, rfl, rfl, trivial⟩ (.take 0 rfl (.take 0 rfl (.take 0 rfl (.take 0 rfl (.take 0 rfl (.use 0 rfl (fun _ h => h) (.nil)))))))
      ·
        refine WO.loud rfl (.nil) (Ld.alloc ti60 rfl) trivial rfl (by rintro _ _ ⟨b_6, rfl, rfl⟩; exact ⟨_, (.take 2 rfl (.use 2 rfl (fun _ h => h) (.nil)))⟩) ?_
        rintro _ _ ⟨b_6, rfl, rfl⟩
        refine WA.two 3 5 (by kernel_rfl) ?_ ?_
        ·
          refine WO.call rfl (.use 3 rfl (fun _ h => h) (.nil)) (Cl.func cb47 rfl) (ancestorsW cs _ _ _ _ _ _ _ (⟨#[82]⟩ : ByteArray) hlen) trivial rfl (by rintro _ _ ⟨A_3, c_3, l_3, rfl, rfl, hm_3⟩; exact ⟨_, (.take 3 rfl (.use 3 rfl (fun _ h => h) (.nil)))⟩) ?_
          rintro _ _ ⟨A_3, c_3, l_3, rfl, rfl, hm_3⟩
          refine WA.one 5 (by kernel_rfl) ?_
          refine WO.loud rfl (.nil) (Ld.alloc ti60 rfl) trivial rfl (by rintro _ _ ⟨b_7, rfl, rfl⟩; exact ⟨_, (.take 4 rfl (.use 4 rfl (fun _ h => h) (.nil)))⟩) ?_
          rintro _ _ ⟨b_7, rfl, rfl⟩
          refine WA.one 6 (by kernel_rfl) ?_
          refine WO.loud rfl (.take 2 rfl (.nil)) (Ld.store ti60 rfl rfl rfl rfl rfl rfl) trivial rfl (by rintro _ _ rfl; exact ⟨_, (.take 4 rfl (.use 4 rfl (fun _ h => h) (.nil)))⟩) ?_
          rintro _ _ rfl
          refine WA.phase (K' := [0, 1, 2, 3, 4, 5, 6, 7]) (Γq' := [blk b_6 60 [.slice A_1 l_1.length c_1], row kStr 9 A_3 c_3 l_3, row kStr 9 A_1 c_1 l_1, blk b_1 25 [.string lb, .slice A cs.length c, .slice B nB d, .string jp], rd kContact A c cs]) (by kernel_rfl) ?_
          refine WA.one 7 (by kernel_rfl) ?_
          refine WO.loud rfl (.take 1 rfl (.nil)) (Ld.store ti60 rfl rfl rfl rfl rfl rfl) trivial rfl (by rintro _ _ rfl; exact ⟨_, (.take 1 rfl (.take 1 rfl (.take 1 rfl (.take 1 rfl (.use 1 rfl (fun _ h => h) (.nil))))))⟩) ?_
          rintro _ _ rfl
          refine WA.done (by kernel_rfl) ?_
          exact WX.cut (b_6, b_7, A_3, l_3, c_3, A_1, l_1, c_1) ⟨hm_1, hm_3⟩ ⟨rfl, rfl, rfl, rfl, trivial⟩ (.take 0 rfl (.take 0 rfl (.take 0 rfl (.take 0 rfl (.take 0 rfl (.use 0 rfl (fun _ h => h) (.nil)))))))
        ·
          refine WO.loud rfl (.nil) (Ld.alloc ti60 rfl) trivial rfl (by rintro _ _ ⟨b_8, rfl, rfl⟩; exact ⟨_, (.take 3 rfl (.use 3 rfl (fun _ h => h) (.nil)))⟩) ?_
          rintro _ _ ⟨b_8, rfl, rfl⟩
          refine WA.one 3 (by kernel_rfl) ?_
          refine WO.call rfl (.use 4 rfl (fun _ h => h) (.nil)) (Cl.func cb47 rfl) (ancestorsW cs _ _ _ _ _ _ _ (⟨#[82]⟩ : ByteArray) hlen) trivial rfl (by rintro _ _ ⟨A_4, c_4, l_4, rfl, rfl, hm_4⟩; exact ⟨_, (.take 4 rfl (.use 4 rfl (fun _ h => h) (.nil)))⟩) ?_
          rintro _ _ ⟨A_4, c_4, l_4, rfl, rfl, hm_4⟩
          refine WA.one 6 (by kernel_rfl) ?_
          refine WO.loud rfl (.take 2 rfl (.nil)) (Ld.store ti60 rfl rfl rfl rfl rfl rfl) trivial rfl (by rintro _ _ rfl; exact ⟨_, (.take 4 rfl (.use 4 rfl (fun _ h => h) (.nil)))⟩) ?_
          rintro _ _ rfl
          refine WA.phase (K' := [0, 1, 2, 3, 4, 5, 6, 7]) (Γq' := [blk b_6 60 [.slice A_1 l_1.length c_1], row kStr 9 A_4 c_4 l_4, row kStr 9 A_1 c_1 l_1, blk b_1 25 [.string lb, .slice A cs.length c, .slice B nB d, .string jp], rd kContact A c cs]) (by kernel_rfl) ?_
          refine WA.one 7 (by kernel_rfl) ?_
          refine WO.loud rfl (.take 2 rfl (.nil)) (Ld.store ti60 rfl rfl rfl rfl rfl rfl) trivial rfl (by rintro _ _ rfl; exact ⟨_, (.take 1 rfl (.take 1 rfl (.take 1 rfl (.take 1 rfl (.use 1 rfl (fun _ h => h) (.nil))))))⟩) ?_
          rintro _ _ rfl
          refine WA.done (by kernel_rfl) ?_
          exact WX.cut (b_6, b_8, A_4, l_4, c_4, A_1, l_1, c_1) ⟨hm_1, hm_4⟩ ⟨rfl, rfl, rfl, rfl, trivial⟩ (.take 0 rfl (.take 0 rfl (.take 0 rfl (.take 0 rfl (.take 0 rfl (.use 0 rfl (fun _ h => h) (.nil)))))))
      ·
        refine WO.loud rfl (.nil) (Ld.alloc ti60 rfl) trivial rfl (by rintro _ _ ⟨b_9, rfl, rfl⟩; exact ⟨_, (.take 2 rfl (.use 2 rfl (fun _ h => h) (.nil)))⟩) ?_
        rintro _ _ ⟨b_9, rfl, rfl⟩
        refine WA.two 3 4 (by kernel_rfl) ?_ ?_
        ·
          refine WO.call rfl (.use 3 rfl (fun _ h => h) (.nil)) (Cl.func cb47 rfl) (ancestorsW cs _ _ _ _ _ _ _ (⟨#[82]⟩ : ByteArray) hlen) trivial rfl (by rintro _ _ ⟨A_5, c_5, l_5, rfl, rfl, hm_5⟩; exact ⟨_, (.take 3 rfl (.use 3 rfl (fun _ h => h) (.nil)))⟩) ?_
          rintro _ _ ⟨A_5, c_5, l_5, rfl, rfl, hm_5⟩
          refine WA.one 4 (by kernel_rfl) ?_
          refine WO.loud rfl (.nil) (Ld.alloc ti60 rfl) trivial rfl (by rintro _ _ ⟨b_10, rfl, rfl⟩; exact ⟨_, (.take 4 rfl (.use 4 rfl (fun _ h => h) (.nil)))⟩) ?_
          rintro _ _ ⟨b_10, rfl, rfl⟩
          refine WA.one 6 (by kernel_rfl) ?_
          refine WO.loud rfl (.take 0 rfl (.nil)) (Ld.store ti60 rfl rfl rfl rfl rfl rfl) trivial rfl (by rintro _ _ rfl; exact ⟨_, (.take 4 rfl (.use 4 rfl (fun _ h => h) (.nil)))⟩) ?_
          rintro _ _ rfl
          refine WA.phase (K' := [0, 1, 2, 3, 4, 5, 6, 7]) (Γq' := [blk b_10 60 [.slice A_1 l_1.length c_1], row kStr 9 A_5 c_5 l_5, row kStr 9 A_1 c_1 l_1, blk b_1 25 [.string lb, .slice A cs.length c, .slice B nB d, .string jp], rd kContact A c cs]) (by kernel_rfl) ?_
          refine WA.one 7 (by kernel_rfl) ?_
          refine WO.loud rfl (.take 2 rfl (.nil)) (Ld.store ti60 rfl rfl rfl rfl rfl rfl) trivial rfl (by rintro _ _ rfl; exact ⟨_, (.take 1 rfl (.take 1 rfl (.take 1 rfl (.take 1 rfl (.use 1 rfl (fun _ h => h) (.nil))))))⟩) ?_
          rintro _ _ rfl
          refine WA.done (by kernel_rfl) ?_
          exact WX.cut (b_10, b_9, A_5, l_5, c_5, A_1, l_1, c_1) ⟨hm_1, hm_5⟩ ⟨rfl, rfl, rfl, rfl, trivial⟩ (.take 0 rfl (.take 0 rfl (.take 0 rfl (.take 0 rfl (.take 0 rfl (.use 0 rfl (fun _ h => h) (.nil)))))))
        ·
          refine WO.loud rfl (.nil) (Ld.alloc ti60 rfl) trivial rfl (by rintro _ _ ⟨b_11, rfl, rfl⟩; exact ⟨_, (.take 3 rfl (.use 3 rfl (fun _ h => h) (.nil)))⟩) ?_
          rintro _ _ ⟨b_11, rfl, rfl⟩
          refine WA.one 3 (by kernel_rfl) ?_
          refine WO.call rfl (.use 4 rfl (fun _ h => h) (.nil)) (Cl.func cb47 rfl) (ancestorsW cs _ _ _ _ _ _ _ (⟨#[82]⟩ : ByteArray) hlen) trivial rfl (by rintro _ _ ⟨A_6, c_6, l_6, rfl, rfl, hm_6⟩; exact ⟨_, (.take 4 rfl (.use 4 rfl (fun _ h => h) (.nil)))⟩) ?_
          rintro _ _ ⟨A_6, c_6, l_6, rfl, rfl, hm_6⟩
          refine WA.one 6 (by kernel_rfl) ?_
          refine WO.loud rfl (.take 1 rfl (.nil)) (Ld.store ti60 rfl rfl rfl rfl rfl rfl) trivial rfl (by rintro _ _ rfl; exact ⟨_, (.take 4 rfl (.use 4 rfl (fun _ h => h) (.nil)))⟩) ?_
          rintro _ _ rfl
          refine WA.phase (K' := [0, 1, 2, 3, 4, 5, 6, 7]) (Γq' := [blk b_11 60 [.slice A_1 l_1.length c_1], row kStr 9 A_6 c_6 l_6, row kStr 9 A_1 c_1 l_1, blk b_1 25 [.string lb, .slice A cs.length c, .slice B nB d, .string jp], rd kContact A c cs]) (by kernel_rfl) ?_
          refine WA.one 7 (by kernel_rfl) ?_
          refine WO.loud rfl (.take 2 rfl (.nil)) (Ld.store ti60 rfl rfl rfl rfl rfl rfl) trivial rfl (by rintro _ _ rfl; exact ⟨_, (.take 1 rfl (.take 1 rfl (.take 1 rfl (.take 1 rfl (.use 1 rfl (fun _ h => h) (.nil))))))⟩) ?_
          rintro _ _ rfl
          refine WA.done (by kernel_rfl) ?_
          exact WX.cut (b_11, b_9, A_6, l_6, c_6, A_1, l_1, c_1) ⟨hm_1, hm_6⟩ ⟨rfl, rfl, rfl, rfl, trivial⟩ (.take 0 rfl (.take 0 rfl (.take 0 rfl (.take 0 rfl (.take 0 rfl (.use 0 rfl (fun _ h => h) (.nil)))))))
    ·
      refine WO.loud rfl (.nil) (Ld.alloc ti60 rfl) trivial rfl (by rintro _ _ ⟨b_12, rfl, rfl⟩; exact ⟨_, (.take 1 rfl (.use 1 rfl (fun _ h => h) (.nil)))⟩) ?_
      rintro _ _ ⟨b_12, rfl, rfl⟩
      refine WA.two 1 5 (by kernel_rfl) ?_ ?_
      ·
        refine WO.call rfl (.use 2 rfl (fun _ h => h) (.nil)) (Cl.func cb46 rfl) (reachableW cs _ _ _ _ _ _ _ (⟨#[76]⟩ : ByteArray) hlen) trivial rfl (by rintro _ _ ⟨A_7, c_7, l_7, rfl, rfl, hm_7⟩; exact ⟨_, (.take 2 rfl (.use 2 rfl (fun _ h => h) (.nil)))⟩) ?_
        rintro _ _ ⟨A_7, c_7, l_7, rfl, rfl, hm_7⟩
        refine WA.two 3 5 (by kernel_rfl) ?_ ?_
        ·
          refine WO.call rfl (.use 3 rfl (fun _ h => h) (.nil)) (Cl.func cb47 rfl) (ancestorsW cs _ _ _ _ _ _ _ (⟨#[82]⟩ : ByteArray) hlen) trivial rfl (by rintro _ _ ⟨A_8, c_8, l_8, rfl, rfl, hm_8⟩; exact ⟨_, (.take 3 rfl (.use 3 rfl (fun _ h => h) (.nil)))⟩) ?_
          rintro _ _ ⟨A_8, c_8, l_8, rfl, rfl, hm_8⟩
          refine WA.one 5 (by kernel_rfl) ?_
          refine WO.loud rfl (.nil) (Ld.alloc ti60 rfl) trivial rfl (by rintro _ _ ⟨b_13, rfl, rfl⟩; exact ⟨_, (.take 4 rfl (.use 4 rfl (fun _ h => h) (.nil)))⟩) ?_
          rintro _ _ ⟨b_13, rfl, rfl⟩
          refine WA.one 6 (by kernel_rfl) ?_
          refine WO.loud rfl (.take 3 rfl (.nil)) (Ld.store ti60 rfl rfl rfl rfl rfl rfl) trivial rfl (by rintro _ _ rfl; exact ⟨_, (.take 4 rfl (.use 4 rfl (fun _ h => h) (.nil)))⟩) ?_
          rintro _ _ rfl
          refine WA.phase (K' := [0, 1, 2, 3, 4, 5, 6, 7]) (Γq' := [blk b_12 60 [.slice A_7 l_7.length c_7], row kStr 9 A_8 c_8 l_8, row kStr 9 A_7 c_7 l_7, blk b_1 25 [.string lb, .slice A cs.length c, .slice B nB d, .string jp], rd kContact A c cs]) (by kernel_rfl) ?_
          refine WA.one 7 (by kernel_rfl) ?_
          refine WO.loud rfl (.take 1 rfl (.nil)) (Ld.store ti60 rfl rfl rfl rfl rfl rfl) trivial rfl (by rintro _ _ rfl; exact ⟨_, (.take 1 rfl (.take 1 rfl (.take 1 rfl (.take 1 rfl (.use 1 rfl (fun _ h => h) (.nil))))))⟩) ?_
          rintro _ _ rfl
          refine WA.done (by kernel_rfl) ?_
          exact WX.cut (b_12, b_13, A_8, l_8, c_8, A_7, l_7, c_7) ⟨hm_7, hm_8⟩ ⟨rfl, rfl, rfl, rfl, trivial⟩ (.take 0 rfl (.take 0 rfl (.take 0 rfl (.take 0 rfl (.take 0 rfl (.use 0 rfl (fun _ h => h) (.nil)))))))
        ·
          refine WO.loud rfl (.nil) (Ld.alloc ti60 rfl) trivial rfl (by rintro _ _ ⟨b_14, rfl, rfl⟩; exact ⟨_, (.take 3 rfl (.use 3 rfl (fun _ h => h) (.nil)))⟩) ?_
          rintro _ _ ⟨b_14, rfl, rfl⟩
          refine WA.one 3 (by kernel_rfl) ?_
          refine WO.call rfl (.use 4 rfl (fun _ h => h) (.nil)) (Cl.func cb47 rfl) (ancestorsW cs _ _ _ _ _ _ _ (⟨#[82]⟩ : ByteArray) hlen) trivial rfl (by rintro _ _ ⟨A_9, c_9, l_9, rfl, rfl, hm_9⟩; exact ⟨_, (.take 4 rfl (.use 4 rfl (fun _ h => h) (.nil)))⟩) ?_
          rintro _ _ ⟨A_9, c_9, l_9, rfl, rfl, hm_9⟩
          refine WA.one 6 (by kernel_rfl) ?_
          refine WO.loud rfl (.take 3 rfl (.nil)) (Ld.store ti60 rfl rfl rfl rfl rfl rfl) trivial rfl (by rintro _ _ rfl; exact ⟨_, (.take 4 rfl (.use 4 rfl (fun _ h => h) (.nil)))⟩) ?_
          rintro _ _ rfl
          refine WA.phase (K' := [0, 1, 2, 3, 4, 5, 6, 7]) (Γq' := [blk b_12 60 [.slice A_7 l_7.length c_7], row kStr 9 A_9 c_9 l_9, row kStr 9 A_7 c_7 l_7, blk b_1 25 [.string lb, .slice A cs.length c, .slice B nB d, .string jp], rd kContact A c cs]) (by kernel_rfl) ?_
          refine WA.one 7 (by kernel_rfl) ?_
          refine WO.loud rfl (.take 2 rfl (.nil)) (Ld.store ti60 rfl rfl rfl rfl rfl rfl) trivial rfl (by rintro _ _ rfl; exact ⟨_, (.take 1 rfl (.take 1 rfl (.take 1 rfl (.take 1 rfl (.use 1 rfl (fun _ h => h) (.nil))))))⟩) ?_
          rintro _ _ rfl
          refine WA.done (by kernel_rfl) ?_
          exact WX.cut (b_12, b_14, A_9, l_9, c_9, A_7, l_7, c_7) ⟨hm_7, hm_9⟩ ⟨rfl, rfl, rfl, rfl, trivial⟩ (.take 0 rfl (.take 0 rfl (.take 0 rfl (.take 0 rfl (.take 0 rfl (.use 0 rfl (fun _ h => h) (.nil)))))))
      ·
        refine WO.loud rfl (.nil) (Ld.alloc ti60 rfl) trivial rfl (by rintro _ _ ⟨b_15, rfl, rfl⟩; exact ⟨_, (.take 2 rfl (.use 2 rfl (fun _ h => h) (.nil)))⟩) ?_
        rintro _ _ ⟨b_15, rfl, rfl⟩
        refine WA.one 1 (by kernel_rfl) ?_
        refine WO.call rfl (.use 3 rfl (fun _ h => h) (.nil)) (Cl.func cb46 rfl) (reachableW cs _ _ _ _ _ _ _ (⟨#[76]⟩ : ByteArray) hlen) trivial rfl (by rintro _ _ ⟨A_10, c_10, l_10, rfl, rfl, hm_10⟩; exact ⟨_, (.take 3 rfl (.use 3 rfl (fun _ h => h) (.nil)))⟩) ?_
        rintro _ _ ⟨A_10, c_10, l_10, rfl, rfl, hm_10⟩
        refine WA.one 3 (by kernel_rfl) ?_
        refine WO.call rfl (.use 4 rfl (fun _ h => h) (.nil)) (Cl.func cb47 rfl) (ancestorsW cs _ _ _ _ _ _ _ (⟨#[82]⟩ : ByteArray) hlen) trivial rfl (by rintro _ _ ⟨A_11, c_11, l_11, rfl, rfl, hm_11⟩; exact ⟨_, (.take 4 rfl (.use 4 rfl (fun _ h => h) (.nil)))⟩) ?_
        rintro _ _ ⟨A_11, c_11, l_11, rfl, rfl, hm_11⟩
        refine WA.one 6 (by kernel_rfl) ?_
        refine WO.loud rfl (.take 3 rfl (.nil)) (Ld.store ti60 rfl rfl rfl rfl rfl rfl) trivial rfl (by rintro _ _ rfl; exact ⟨_, (.take 4 rfl (.use 4 rfl (fun _ h => h) (.nil)))⟩) ?_
        rintro _ _ rfl
        refine WA.phase (K' := [0, 1, 2, 3, 4, 5, 6, 7]) (Γq' := [blk b_12 60 [.slice A_10 l_10.length c_10], row kStr 9 A_11 c_11 l_11, row kStr 9 A_10 c_10 l_10, blk b_1 25 [.string lb, .slice A cs.length c, .slice B nB d, .string jp], rd kContact A c cs]) (by kernel_rfl) ?_
        refine WA.one 7 (by kernel_rfl) ?_
        refine WO.loud rfl (.take 3 rfl (.nil)) (Ld.store ti60 rfl rfl rfl rfl rfl rfl) trivial rfl (by rintro _ _ rfl; exact ⟨_, (.take 1 rfl (.take 1 rfl (.take 1 rfl (.take 1 rfl (.use 1 rfl (fun _ h => h) (.nil))))))⟩) ?_
        rintro _ _ rfl
        refine WA.done (by kernel_rfl) ?_
        exact WX.cut (b_12, b_15, A_11, l_11, c_11, A_10, l_10, c_10) ⟨hm_10, hm_11⟩ ⟨rfl, rfl, rfl, rfl, trivial⟩ (.take 0 rfl (.take 0 rfl (.take 0 rfl (.take 0 rfl (.take 0 rfl (.use 0 rfl (fun _ h => h) (.nil)))))))
    ·
      refine WO.loud rfl (.nil) (Ld.alloc ti60 rfl) trivial rfl (by rintro _ _ ⟨b_16, rfl, rfl⟩; exact ⟨_, (.take 1 rfl (.use 1 rfl (fun _ h => h) (.nil)))⟩) ?_
      rintro _ _ ⟨b_16, rfl, rfl⟩
      refine WA.two 1 4 (by kernel_rfl) ?_ ?_
      ·
        refine WO.call rfl (.use 2 rfl (fun _ h => h) (.nil)) (Cl.func cb46 rfl) (reachableW cs _ _ _ _ _ _ _ (⟨#[76]⟩ : ByteArray) hlen) trivial rfl (by rintro _ _ ⟨A_12, c_12, l_12, rfl, rfl, hm_12⟩; exact ⟨_, (.take 2 rfl (.use 2 rfl (fun _ h => h) (.nil)))⟩) ?_
        rintro _ _ ⟨A_12, c_12, l_12, rfl, rfl, hm_12⟩
        refine WA.two 3 4 (by kernel_rfl) ?_ ?_
        ·
          refine WO.call rfl (.use 3 rfl (fun _ h => h) (.nil)) (Cl.func cb47 rfl) (ancestorsW cs _ _ _ _ _ _ _ (⟨#[82]⟩ : ByteArray) hlen) trivial rfl (by rintro _ _ ⟨A_13, c_13, l_13, rfl, rfl, hm_13⟩; exact ⟨_, (.take 3 rfl (.use 3 rfl (fun _ h => h) (.nil)))⟩) ?_
          rintro _ _ ⟨A_13, c_13, l_13, rfl, rfl, hm_13⟩
          refine WA.one 4 (by kernel_rfl) ?_
          refine WO.loud rfl (.nil) (Ld.alloc ti60 rfl) trivial rfl (by rintro _ _ ⟨b_17, rfl, rfl⟩; exact ⟨_, (.take 4 rfl (.use 4 rfl (fun _ h => h) (.nil)))⟩) ?_
          rintro _ _ ⟨b_17, rfl, rfl⟩
          refine WA.one 6 (by kernel_rfl) ?_
          refine WO.loud rfl (.take 0 rfl (.nil)) (Ld.store ti60 rfl rfl rfl rfl rfl rfl) trivial rfl (by rintro _ _ rfl; exact ⟨_, (.take 4 rfl (.use 4 rfl (fun _ h => h) (.nil)))⟩) ?_
          rintro _ _ rfl
          refine WA.phase (K' := [0, 1, 2, 3, 4, 5, 6, 7]) (Γq' := [blk b_17 60 [.slice A_12 l_12.length c_12], row kStr 9 A_13 c_13 l_13, row kStr 9 A_12 c_12 l_12, blk b_1 25 [.string lb, .slice A cs.length c, .slice B nB d, .string jp], rd kContact A c cs]) (by kernel_rfl) ?_
          refine WA.one 7 (by kernel_rfl) ?_
          refine WO.loud rfl (.take 3 rfl (.nil)) (Ld.store ti60 rfl rfl rfl rfl rfl rfl) trivial rfl (by rintro _ _ rfl; exact ⟨_, (.take 1 rfl (.take 1 rfl (.take 1 rfl (.take 1 rfl (.use 1 rfl (fun _ h => h) (.nil))))))⟩) ?_
          rintro _ _ rfl
          refine WA.done (by kernel_rfl) ?_
          exact WX.cut (b_17, b_16, A_13, l_13, c_13, A_12, l_12, c_12) ⟨hm_12, hm_13⟩ ⟨rfl, rfl, rfl, rfl, trivial⟩ (.take 0 rfl (.take 0 rfl (.take 0 rfl (.take 0 rfl (.take 0 rfl (.use 0 rfl (fun _ h => h) (.nil)))))))
        ·
          refine WO.loud rfl (.nil) (Ld.alloc ti60 rfl) trivial rfl (by rintro _ _ ⟨b_18, rfl, rfl⟩; exact ⟨_, (.take 3 rfl (.use 3 rfl (fun _ h => h) (.nil)))⟩) ?_
          rintro _ _ ⟨b_18, rfl, rfl⟩
          refine WA.one 3 (by kernel_rfl) ?_
          refine WO.call rfl (.use 4 rfl (fun _ h => h) (.nil)) (Cl.func cb47 rfl) (ancestorsW cs _ _ _ _ _ _ _ (⟨#[82]⟩ : ByteArray) hlen) trivial rfl (by rintro _ _ ⟨A_14, c_14, l_14, rfl, rfl, hm_14⟩; exact ⟨_, (.take 4 rfl (.use 4 rfl (fun _ h => h) (.nil)))⟩) ?_
          rintro _ _ ⟨A_14, c_14, l_14, rfl, rfl, hm_14⟩
          refine WA.one 6 (by kernel_rfl) ?_
          refine WO.loud rfl (.take 1 rfl (.nil)) (Ld.store ti60 rfl rfl rfl rfl rfl rfl) trivial rfl (by rintro _ _ rfl; exact ⟨_, (.take 4 rfl (.use 4 rfl (fun _ h => h) (.nil)))⟩) ?_
          rintro _ _ rfl
          refine WA.phase (K' := [0, 1, 2, 3, 4, 5, 6, 7]) (Γq' := [blk b_18 60 [.slice A_12 l_12.length c_12], row kStr 9 A_14 c_14 l_14, row kStr 9 A_12 c_12 l_12, blk b_1 25 [.string lb, .slice A cs.length c, .slice B nB d, .string jp], rd kContact A c cs]) (by kernel_rfl) ?_
          refine WA.one 7 (by kernel_rfl) ?_
          refine WO.loud rfl (.take 3 rfl (.nil)) (Ld.store ti60 rfl rfl rfl rfl rfl rfl) trivial rfl (by rintro _ _ rfl; exact ⟨_, (.take 1 rfl (.take 1 rfl (.take 1 rfl (.take 1 rfl (.use 1 rfl (fun _ h => h) (.nil))))))⟩) ?_
          rintro _ _ rfl
          refine WA.done (by kernel_rfl) ?_
          exact WX.cut (b_18, b_16, A_14, l_14, c_14, A_12, l_12, c_12) ⟨hm_12, hm_14⟩ ⟨rfl, rfl, rfl, rfl, trivial⟩ (.take 0 rfl (.take 0 rfl (.take 0 rfl (.take 0 rfl (.take 0 rfl (.use 0 rfl (fun _ h => h) (.nil)))))))
      ·
        refine WO.loud rfl (.nil) (Ld.alloc ti60 rfl) trivial rfl (by rintro _ _ ⟨b_19, rfl, rfl⟩; exact ⟨_, (.take 2 rfl (.use 2 rfl (fun _ h => h) (.nil)))⟩) ?_
        rintro _ _ ⟨b_19, rfl, rfl⟩
        refine WA.one 1 (by kernel_rfl) ?_
        refine WO.call rfl (.use 3 rfl (fun _ h => h) (.nil)) (Cl.func cb46 rfl) (reachableW cs _ _ _ _ _ _ _ (⟨#[76]⟩ : ByteArray) hlen) trivial rfl (by rintro _ _ ⟨A_15, c_15, l_15, rfl, rfl, hm_15⟩; exact ⟨_, (.take 3 rfl (.use 3 rfl (fun _ h => h) (.nil)))⟩) ?_
        rintro _ _ ⟨A_15, c_15, l_15, rfl, rfl, hm_15⟩
        refine WA.one 3 (by kernel_rfl) ?_
        refine WO.call rfl (.use 4 rfl (fun _ h => h) (.nil)) (Cl.func cb47 rfl) (ancestorsW cs _ _ _ _ _ _ _ (⟨#[82]⟩ : ByteArray) hlen) trivial rfl (by rintro _ _ ⟨A_16, c_16, l_16, rfl, rfl, hm_16⟩; exact ⟨_, (.take 4 rfl (.use 4 rfl (fun _ h => h) (.nil)))⟩) ?_
        rintro _ _ ⟨A_16, c_16, l_16, rfl, rfl, hm_16⟩
        refine WA.one 6 (by kernel_rfl) ?_
        refine WO.loud rfl (.take 2 rfl (.nil)) (Ld.store ti60 rfl rfl rfl rfl rfl rfl) trivial rfl (by rintro _ _ rfl; exact ⟨_, (.take 4 rfl (.use 4 rfl (fun _ h => h) (.nil)))⟩) ?_
        rintro _ _ rfl
        refine WA.phase (K' := [0, 1, 2, 3, 4, 5, 6, 7]) (Γq' := [blk b_19 60 [.slice A_15 l_15.length c_15], row kStr 9 A_16 c_16 l_16, row kStr 9 A_15 c_15 l_15, blk b_1 25 [.string lb, .slice A cs.length c, .slice B nB d, .string jp], rd kContact A c cs]) (by kernel_rfl) ?_
        refine WA.one 7 (by kernel_rfl) ?_
        refine WO.loud rfl (.take 3 rfl (.nil)) (Ld.store ti60 rfl rfl rfl rfl rfl rfl) trivial rfl (by rintro _ _ rfl; exact ⟨_, (.take 1 rfl (.take 1 rfl (.take 1 rfl (.take 1 rfl (.use 1 rfl (fun _ h => h) (.nil))))))⟩) ?_
        rintro _ _ rfl
        refine WA.done (by kernel_rfl) ?_
        exact WX.cut (b_19, b_16, A_16, l_16, c_16, A_15, l_15, c_15) ⟨hm_15, hm_16⟩ ⟨rfl, rfl, rfl, rfl, trivial⟩ (.take 0 rfl (.take 0 rfl (.take 0 rfl (.take 0 rfl (.take 0 rfl (.use 0 rfl (fun _ h => h) (.nil)))))))
  ·
    rintro ⟨b_2, b_3, A_2, l_2, c_2, A_1, l_1, c_1⟩ ⟨hm_1, hm_2⟩
    try dsimp only at hm_1 hm_2
    show WC _ _ _ _ _ _ [(1, .pointer (some ⟨b_1, 0, none⟩)), (2, .slice none 0 0), (3, .pointer (some ⟨b_2, 0, none⟩)), (4, .pointer (some ⟨b_3, 0, none⟩))] [blk b_3 60 [.slice A_2 l_2.length c_2], blk b_2 60 [.slice A_1 l_1.length c_1], row kStr 9 A_2 c_2 l_2, row kStr 9 A_1 c_1 l_1, blk b_1 25 [.string lb, .slice A cs.length c, .slice B nB d, .string jp], rd kContact A c cs]
    refine WC.seq ?_
    refine WC.turn (.take 2 rfl (.nil)) (freeze_row) ?_
    rintro _ rfl
    refine WC.turn (.take 3 rfl (.nil)) (freeze_row) ?_
    rintro _ rfl
    refine WC.region ?_
    refine WL.quiet (Qt.loadBA 4 rfl ta25 ti25 rfl rfl) rfl rfl ?_
    refine WL.call (.use 5 rfl (fun _ h => h) (.nil)) (Cl.func cb39 rfl) (nodesW cs _ _ _ _ _ _ _ (by omega)) trivial rfl ?_
    rintro _ _ ⟨A_17, c_17, rfl, rfl⟩
    have hnp := nodesF_pos cs
    refine WL.turn (.take 0 rfl (.nil)) (row_open (hnp)) ?_
    rintro _ ⟨b_20, cur_1, rfl, rfl⟩
    refine WL.learn (Z := Unit) (Δ := fun _ => []) (φ := fun _ => (nodesF cs).length ≤ c_17 ∧ c_17 ≤ 9223372036854775807) 0 rfl (fun S w h => ⟨(), rowL_bounds h, nofacts⟩) ?_
    rintro _ ⟨hb_1, hb_2⟩
    refine WL.quiet (Qt.makeFunc (vs := []) rfl rfl) rfl rfl ?_
    refine WL.turn (.take 4 rfl (.take 3 rfl (.nil))) (conj_pack) ?_
    rintro _ rfl
    refine WL.turn (.use 2 rfl (fun _ h => h) (.use 3 rfl (fun _ h => h) (.nil))) (conj_pack) ?_
    rintro _ rfl
    refine WL.call (.take 2 rfl (.take 1 rfl (.use 0 rfl (no_conj (by simp [rd, pers])) (.nil)))) (Cl.func cb48 rfl) (deleteFuncW (nodesF cs) b_20 _ 49 cur_1 [.pointer (some ⟨b_2, 0, none⟩), .pointer (some ⟨b_3, 0, none⟩)] (conj [blk b_2 60 [.slice A_1 l_1.length c_1], blk b_3 60 [.slice A_2 l_2.length c_2]]) (conj [rd kStr A_1 c_1 l_1, rd kStr A_2 c_2 l_2]) (fun x => yes (x ∈ l_1 ∧ x ∈ l_2)) cb49 (no_conj (by simp [rd, pers])) (free_conj (fun X hX => by simp only [List.mem_cons, List.not_mem_nil, or_false] at hX; rcases hX with rfl | rfl <;> exact free_blk _ _ _)) (fun x => Spec.packV (X := [conj [blk b_2 60 [.slice A_1 l_1.length c_1], blk b_3 60 [.slice A_2 l_2.length c_2]]]) (Spec.packed (U := [blk b_2 60 [.slice A_1 l_1.length c_1], blk b_3 60 [.slice A_2 l_2.length c_2]]) (V := [rd kStr A_1 c_1 l_1, rd kStr A_2 c_2 l_2]) (inBothW x l_1 l_2 _ _ _ _ b_2 b_3)))) trivial rfl ?_
    rintro _ _ ⟨cur_2, rfl, rfl⟩
    refine WL.quiet (Qt.assign rfl) rfl rfl ?_
    refine WL.nil ?_
    refine WX.next ?_
    refine WC.ret ?_
    refine WX.ret1 (.nil) rfl rfl ?_
    exact ⟨_, _, _, rfl, rfl, dead_iff hm_1 hm_2⟩

end Go.Proofs.YtkhmbhdlfpalkaaDoor.Sep

/- A walk, printed by gen.py out of hints. -/
namespace Go.Proofs.YtkhmbhdlfpalkaaDoor.Sep
open Go
variable {μ : Prop}
theorem flowCheckW (cs : List Contact) (lb jp : ByteArray) (A B : Option Addr) (c nB d : Nat) (hlen : cs.length ≤ 100000) : Spec μ Tryd.prog 12 #[.agg [.string lb, .slice A cs.length c, .slice B nB d, .string jp].toArray] [rd kContact A c cs] fun v Δ => ∃ e : Int, v = .int .i64 e ∧ Δ = [] ∧ (WF cs ↔ e = 0) := by
  refine Spec.of_body (n := 21) Tryd.func12 rfl rfl rfl fun w0 S0 O0 => ?_
  show WC _ _ _ _ _ _ [(0, .agg [.string lb, .slice A cs.length c, .slice B nB d, .string jp].toArray)] [rd kContact A c cs]
  refine WC.seq ?_
  refine WC.region ?_
  refine WL.loud (.nil) (Ld.box rfl rfl) trivial rfl ?_
  rintro _ _ ⟨b_1, rfl, rfl⟩
  refine WL.quiet (Qt.assign rfl) rfl rfl ?_
  refine WL.nil ?_
  refine WX.next ?_
  refine WC.seq ?_
  refine WC.seq ?_
  refine WC.region ?_
  refine WL.quiet (Qt.fieldAddrB tf25_1 rfl) rfl rfl ?_
  refine WL.quiet (Qt.loadB 0 rfl ta22 rfl rfl) rfl rfl ?_
  refine WL.quiet (Qt.lenS Tryd.underlying22 rfl) rfl rfl ?_
  refine WL.quiet (Qt.eql rfl rfl) rfl rfl ?_
  refine WL.nil ?_
  refine WX.next ?_
  refine WC.condD rfl (fun hc_1 => ?_) (fun hc_1 => ?_)
  ·
    refine WC.seq ?_
    refine WC.region ?_
    refine WL.quiet (Qt.assign rfl) rfl rfl ?_
    refine WL.nil ?_
    refine WX.next ?_
    refine WC.ret ?_
    refine WX.pass_ret ?_
    refine WX.ret1 (.nil) rfl rfl ?_
    exact ⟨_, rfl, rfl, ⟨fun h => absurd h.1 (by omega), fun h => absurd h (by decide)⟩⟩
  ·
    refine WC.skip ?_
    refine WX.next ?_
    refine WC.seq ?_
    refine WC.seq ?_
    refine WC.region ?_
    refine WL.quiet (Qt.loadBA 0 rfl ta25 ti25 rfl rfl) rfl rfl ?_
    refine WL.call (.use 1 rfl (fun _ h => h) (.nil)) (Cl.func cb22 rfl) (topoSortW cs _ _ _ _ _ _ _ hlen) trivial rfl ?_
    rintro _ _ ⟨A_1, c_1, m_1, e_1, rfl, rfl, ht_1⟩
    refine WL.quiet (Qt.move rfl) rfl rfl ?_
    refine WL.quiet (Qt.extract rfl rfl) rfl rfl ?_
    refine WL.quiet (Qt.extract rfl rfl) rfl rfl ?_
    refine WL.quiet (Qt.assign rfl) rfl rfl ?_
    refine WL.quiet (Qt.assign rfl) rfl rfl ?_
    refine WL.nil ?_
    refine WX.next ?_
    refine WC.seq ?_
    refine WC.region ?_
    refine WL.quiet (Qt.move rfl) rfl rfl ?_
    refine WL.quiet (Qt.neq rfl rfl) rfl rfl ?_
    refine WL.nil ?_
    refine WX.next ?_
    refine WC.condD rfl (fun hc_2 => ?_) (fun hc_2 => ?_)
    ·
      refine WC.seq ?_
      refine WC.region ?_
      refine WL.quiet (Qt.move rfl) rfl rfl ?_
      refine WL.quiet (Qt.assign rfl) rfl rfl ?_
      refine WL.nil ?_
      refine WX.next ?_
      refine WC.ret ?_
      refine WX.pass_ret ?_
      refine WX.ret1 (.nil) rfl rfl ?_
      exact ⟨_, rfl, rfl, ⟨fun h => ht_1.1 h.2.1, fun h => absurd h (by omega)⟩⟩
    ·
      refine WC.skip ?_
      refine WX.next ?_
      refine WC.seq ?_
      refine WC.seq ?_
      refine WC.region ?_
      refine WL.quiet (Qt.loadBA 0 rfl ta25 ti25 rfl rfl) rfl rfl ?_
      refine WL.call (.use 1 rfl (fun _ h => h) (.nil)) (Cl.func cb23 rfl) (deadNodesW cs _ _ _ _ _ _ _ hlen) trivial rfl ?_
      rintro _ _ ⟨A_2, c_2, m_2, rfl, rfl, hd_1⟩
      refine WL.quiet (Qt.lenS Tryd.underlying60 rfl) rfl rfl ?_
      refine WL.quiet (Qt.gtr rfl rfl) rfl rfl ?_
      refine WL.nil ?_
      refine WX.next ?_
      refine WC.condD rfl (fun hc_3 => ?_) (fun hc_3 => ?_)
      ·
        refine WC.seq ?_
        refine WC.region ?_
        refine WL.quiet (Qt.assign rfl) rfl rfl ?_
        refine WL.nil ?_
        refine WX.next ?_
        refine WC.ret ?_
        refine WX.pass_ret ?_
        refine WX.ret1 (.nil) rfl rfl ?_
        exact ⟨_, rfl, rfl, ⟨fun h => by have := hd_1.1 h.2.2; omega, fun h => absurd h (by decide)⟩⟩
      ·
        refine WC.skip ?_
        refine WX.next ?_
        refine WC.seq ?_
        refine WC.region ?_
        refine WL.quiet (Qt.assign rfl) rfl rfl ?_
        refine WL.nil ?_
        refine WX.next ?_
        refine WC.ret ?_
        refine WX.ret1 (.nil) rfl rfl ?_
        exact ⟨_, rfl, rfl, ⟨fun _ => rfl, fun _ => ⟨by omega, ht_1.2 (by omega), hd_1.2 (by omega)⟩⟩⟩

end Go.Proofs.YtkhmbhdlfpalkaaDoor.Sep

/- A walk, printed by gen.py out of hints. -/
namespace Go.Proofs.YtkhmbhdlfpalkaaDoor.Sep
open Go
variable {μ : Prop}
theorem samePairW (y x : Edge) (A B : Option Addr) (c d b : Nat)  : Spec μ Tryd.prog 25 #[.agg [.string y.frm, .string y.to, .int .i64 y.t.kind, .int .i64 y.t.n, .slice A y.t.kids.length c].toArray, .pointer (some ⟨b, 0, none⟩)] [rd kTree A c y.t.kids, blk b 50 [.string x.frm, .string x.to, .int .i64 x.t.kind, .int .i64 x.t.n, .slice B x.t.kids.length d]] fun v Δ => v = .bool (decide (y.frm = x.frm ∧ y.to = x.to)) ∧ Δ = [blk b 50 [.string x.frm, .string x.to, .int .i64 x.t.kind, .int .i64 x.t.n, .slice B x.t.kids.length d]] := by
  refine Spec.of_body (n := 9) Tryd.func25 rfl rfl rfl fun w0 S0 O0 => ?_
  show WC _ _ _ _ _ _ [(0, .agg [.string y.frm, .string y.to, .int .i64 y.t.kind, .int .i64 y.t.n, .slice A y.t.kids.length c].toArray), (1, .pointer (some ⟨b, 0, none⟩))] [rd kTree A c y.t.kids, blk b 50 [.string x.frm, .string x.to, .int .i64 x.t.kind, .int .i64 x.t.n, .slice B x.t.kids.length d]]
  refine WC.seq ?_
  refine WC.region ?_
  refine WL.loud (.nil) (Ld.box rfl rfl) trivial rfl ?_
  rintro _ _ ⟨b_1, rfl, rfl⟩
  refine WL.quiet (Qt.assign rfl) rfl rfl ?_
  refine WL.nil ?_
  refine WX.next ?_
  refine WC.seq ?_
  refine WC.region ?_
  refine WL.quiet (Qt.fieldAddrB tf50_0 rfl) rfl rfl ?_
  refine WL.quiet (Qt.loadBA 0 rfl ta48 ti48 rfl rfl) rfl rfl ?_
  refine WL.quiet (Qt.fieldAddrB tf50_0 rfl) rfl rfl ?_
  refine WL.quiet (Qt.loadBA 2 rfl ta48 ti48 rfl rfl) rfl rfl ?_
  refine WL.quiet (Qt.pairEq pe48 rfl rfl) rfl rfl ?_
  refine WL.quiet (Qt.assign rfl) rfl rfl ?_
  refine WL.nil ?_
  refine WX.next ?_
  refine WC.ret ?_
  refine WX.ret1 (.take 2 rfl (.nil)) rfl rfl ?_
  exact ⟨rfl, rfl⟩

end Go.Proofs.YtkhmbhdlfpalkaaDoor.Sep

/- A walk, printed by gen.py out of hints. -/
namespace Go.Proofs.YtkhmbhdlfpalkaaDoor.Sep
open Go
variable {μ : Prop}
theorem indexEdgeW (xs : List Edge) (A : Option Addr) (c fid : Nat) (us : List Value) (F E : Fact) (p : Edge → Bool) (hcall : Callable Tryd.prog fid) (hE : ∀ k, ¬ E.own k) (hf : ∀ (k : Nat) (hk : k < xs.length) (A : Option Addr) (c : Nat), Spec μ Tryd.prog fid ([Value.agg [.string xs[k].frm, .string xs[k].to, .int .i64 xs[k].t.kind, .int .i64 xs[k].t.n, .slice A xs[k].t.kids.length c].toArray] ++ us).toArray [rd kTree A c xs[k].t.kids, F, E] fun v Δ => v = .bool (p xs[k]) ∧ Δ = [F]) : Spec μ Tryd.prog 24 #[.slice A xs.length c, .func (.func fid) #[] us.toArray] [rd kEdge A c xs, F, E] fun v Δ => v = .int .i64 (idxF p xs) ∧ Δ = [F] := by
  refine Spec.of_body (n := 19) Tryd.func24 rfl rfl rfl fun w0 S0 O0 => ?_
  show WC _ _ _ _ _ _ [(0, .slice A xs.length c), (1, .func (.func fid) #[] us.toArray)] [rd kEdge A c xs, F, E]
  refine WC.learn (Z := Unit) (Δ := fun _ => []) (φ := fun _ => xs.length ≤ c ∧ c ≤ 9223372036854775807) 0 rfl (fun S w h => ⟨(), rd_bounds h, nofacts⟩) ?_
  rintro _ ⟨hb_1, hb_2⟩
  refine WC.seq ?_
  refine WC.region ?_
  refine WL.quiet (Qt.assign rfl) rfl rfl ?_
  refine WL.nil ?_
  refine WX.next ?_
  refine WC.seq ?_
  refine WC.seq ?_
  refine WC.region ?_
  refine WL.quiet (Qt.move rfl) rfl rfl ?_
  refine WL.quiet (Qt.lenS Tryd.underlying46 rfl) rfl rfl ?_
  refine WL.quiet (Qt.move rfl) rfl rfl ?_
  refine WL.nil ?_
  refine WX.next ?_
  refine WC.block ?_
  refine WC.loop (fun w0 : Nat => [(0, .slice A xs.length c), (1, .func (.func fid) #[] us.toArray), (4, .int .i64 0), (7, .int .i64 ((xs.length : Nat) : Int)), (8, .int .i64 ((w0 : Nat) : Int))]) (fun w0 => [rd kEdge A c xs, F, E]) (fun w0 => w0 ≤ xs.length ∧ ∀ (j : Nat) (hj : j < xs.length), j < w0 → p xs[j] = false) (fun w0 => xs.length - w0) 0 ⟨Nat.zero_le _, fun j _ h => absurd h (Nat.not_lt_zero _)⟩ ⟨rfl, rfl, rfl, rfl, rfl, trivial⟩ (.use 0 rfl (fun _ h => h) (.take 1 rfl (.use 1 rfl hE (.nil)))) ?_
  rintro k ⟨hk, hb⟩
  try dsimp only at hk hb
  show WC _ _ _ _ _ _ [(0, .slice A xs.length c), (1, .func (.func fid) #[] us.toArray), (4, .int .i64 0), (7, .int .i64 ((xs.length : Nat) : Int)), (8, .int .i64 ((k : Nat) : Int))] [rd kEdge A c xs, F, E]
  refine WC.seq ?_
  refine WC.region ?_
  refine WL.quiet (Qt.lss rfl rfl) rfl rfl ?_
  refine WL.nil ?_
  refine WX.next ?_
  refine WC.seq ?_
  refine WC.condD rfl (fun hc_1 => ?_) (fun hc_1 => ?_)
  ·
    refine WC.skip ?_
    refine WX.next ?_
    refine WC.seq ?_
    refine WC.block ?_
    refine WC.seq ?_
    refine WC.region ?_
    refine WL.quiet (Qt.move rfl) rfl rfl ?_
    refine WL.quiet (Qt.assign rfl) rfl rfl ?_
    refine WL.nil ?_
    refine WX.next ?_
    refine WC.seq ?_
    refine WC.region ?_
    refine WL.quiet (Qt.move rfl) rfl rfl ?_
    refine WL.quiet (Qt.move rfl) rfl rfl ?_
    refine WL.quiet (Qt.move rfl) rfl rfl ?_
    have hj_1 : k < xs.length := by omega
    refine WL.learn 0 rfl (rd_at k hj_1 (vEdge _)) ?_
    rintro ⟨p_1, ⟨A_1, c_1⟩⟩ hA_1
    refine WL.quiet (Qt.indexAddrE k hA_1 Tryd.underlying46 ti50 rfl rfl (by first | assumption | omega)) rfl rfl ?_
    refine WL.quiet (Qt.loadCA (p := p_1.add (k * 5)) (o := 0) 0 rfl ta50 ti50 rfl rfl) rfl rfl ?_
    refine WL.call (.use 1 rfl (fun _ h => h) (.take 3 rfl (.use 3 rfl hE (.nil)))) (Cl.val hcall rfl rfl) (hf k _ _ _) trivial rfl ?_
    rintro _ _ ⟨rfl, rfl⟩
    refine WL.nil ?_
    refine WX.next ?_
    refine WC.cond rfl (fun hc_2 => ?_) (fun hc_2 => ?_)
    ·
      refine WC.seq ?_
      refine WC.region ?_
      refine WL.quiet (Qt.move rfl) rfl rfl ?_
      refine WL.quiet (Qt.assign rfl) rfl rfl ?_
      refine WL.nil ?_
      refine WX.next ?_
      refine WC.ret ?_
      refine WX.block_ret ?_
      refine WX.pass_ret ?_
      refine WX.pass_ret ?_
      refine WX.block_ret ?_
      refine WX.pass_ret ?_
      refine WX.ret1 (.take 0 rfl (.nil)) rfl rfl ?_
      exact ⟨by rw [idxF_at (by omega) hc_2 hb], rfl⟩
    ·
      refine WC.skip ?_
      refine WX.block_end ?_
      refine WX.next ?_
      refine WC.region ?_
      refine WL.quiet (Qt.add rfl rfl (by omega)) rfl rfl ?_
      refine WL.quiet (Qt.move rfl) rfl rfl ?_
      refine WL.nil ?_
      exact WX.back (k + 1) ⟨by omega, notyet hb (by omega) hc_2⟩ (by first | omega | (dsimp only; omega) | (simp; omega)) ⟨rfl, rfl, rfl, rfl, rfl, trivial⟩ (.use 3 rfl (fun _ h => h) (.take 0 rfl (.use 3 rfl hE (.nil))))
  ·
    refine WC.exit ?_
    refine WX.pass_exit ?_
    refine WX.pass_exit ?_
    refine WX.block_exit ?_
    refine WX.next ?_
    refine WC.seq ?_
    refine WC.region ?_
    refine WL.quiet (Qt.assign rfl) rfl rfl ?_
    refine WL.nil ?_
    refine WX.next ?_
    refine WC.ret ?_
    refine WX.ret1 (.take 1 rfl (.nil)) rfl rfl ?_
    exact ⟨by rw [idxF_none (fun j hj => hb j hj (by omega))], rfl⟩

end Go.Proofs.YtkhmbhdlfpalkaaDoor.Sep

/- A walk, printed by gen.py out of hints. -/
namespace Go.Proofs.YtkhmbhdlfpalkaaDoor.Sep
open Go
variable {μ : Prop}
theorem joinW (kind : Int) (a b : PT) (A B : Option Addr) (c d : Nat) (hnd : a.nodes + b.nodes ≤ 1000000) : Spec μ Tryd.prog 26 #[.int .i64 kind, .agg [.int .i64 a.kind, .int .i64 a.n, .slice A a.kids.length c].toArray, .agg [.int .i64 b.kind, .int .i64 b.n, .slice B b.kids.length d].toArray] [rd kTree A c a.kids, rd kTree B d b.kids] fun v Δ => ∃ A1 c1, v = .agg #[.int .i64 (joinT kind a b).kind, .int .i64 (joinT kind a b).n, .slice A1 (joinT kind a b).kids.length c1] ∧ Δ = [rd kTree A1 c1 (joinT kind a b).kids] := by
  refine Spec.of_body (n := 38) Tryd.func26 rfl rfl rfl fun w0 S0 O0 => ?_
  show WC _ _ _ _ _ _ [(0, .int .i64 kind), (1, .agg [.int .i64 a.kind, .int .i64 a.n, .slice A a.kids.length c].toArray), (2, .agg [.int .i64 b.kind, .int .i64 b.n, .slice B b.kids.length d].toArray)] [rd kTree A c a.kids, rd kTree B d b.kids]
  refine WC.learn (Z := Unit) (Δ := fun _ => []) (φ := fun _ => a.kids.length ≤ c ∧ c ≤ 9223372036854775807) 0 rfl (fun S w h => ⟨(), rd_bounds h, nofacts⟩) ?_
  rintro _ ⟨hb_1, hb_2⟩
  refine WC.learn (Z := Unit) (Δ := fun _ => []) (φ := fun _ => b.kids.length ≤ d ∧ d ≤ 9223372036854775807) 1 rfl (fun S w h => ⟨(), rd_bounds h, nofacts⟩) ?_
  rintro _ ⟨hb_3, hb_4⟩
  refine WC.seq ?_
  refine WC.region ?_
  refine WL.loud (.nil) (Ld.box rfl rfl) trivial rfl ?_
  rintro _ _ ⟨b_1, rfl, rfl⟩
  refine WL.loud (.nil) (Ld.box rfl rfl) trivial rfl ?_
  rintro _ _ ⟨b_2, rfl, rfl⟩
  refine WL.loud (.nil) (Ld.alloc ti30 rfl) trivial rfl ?_
  rintro _ _ ⟨b_3, rfl, rfl⟩
  refine WL.nil ?_
  refine WX.next ?_
  refine WC.seq ?_
  refine WC.region ?_
  refine WL.quiet (Qt.move rfl) rfl rfl ?_
  refine WL.quiet (Qt.build tp30 ti30 rfl rfl rfl) rfl rfl ?_
  refine WL.loud (.nil) (Ld.alloc ti30 rfl) trivial rfl ?_
  rintro _ _ ⟨b_4, rfl, rfl⟩
  refine WL.loud (.take 0 rfl (.nil)) (Ld.store ti30 rfl rfl rfl rfl rfl rfl) trivial rfl ?_
  rintro _ _ rfl
  refine WL.nil ?_
  refine WX.next ?_
  refine WC.seq ?_
  refine WC.seq ?_
  refine WC.region ?_
  refine WL.quiet (Qt.loadBA 3 rfl ta30 ti30 rfl rfl) rfl rfl ?_
  refine WL.quiet (Qt.loadBA 2 rfl ta30 ti30 rfl rfl) rfl rfl ?_
  refine WL.loud (.nil) (Ld.buildSlice (zs := [.int .i64 0, .int .i64 0, .slice none 0 0, .int .i64 0, .int .i64 0, .slice none 0 0]) Tryd.underlying28 ti30 rfl rfl (by kernel_rfl) rfl rfl) trivial rfl ?_
  rintro _ _ ⟨b_5, rfl, rfl⟩
  refine WL.turn (.take 0 rfl (.use 4 rfl (fun _ h => h) (.use 5 rfl (fun _ h => h) (.nil)))) (blk_row (e := kTree) (U := [rd kTree A c a.kids, rd kTree B d b.kids]) [a, b] (fun F hF => by revert F; simp [List.forall_mem_cons, rd, pers, cellsAt]) (fun S w h => Reps.append (xs := [a]) (ys := [b]) (l := [.int .i64 a.kind, .int .i64 a.n, .slice A a.kids.length c]) (m := [.int .i64 b.kind, .int .i64 b.n, .slice B b.kids.length d]) (Reps.one (mkTreeE (h _ (by simp)))) (Reps.one (mkTreeE (h _ (by simp))))) (by simp)) ?_
  rintro _ rfl
  refine WL.turn (.take 0 rfl (.nil)) (freeze_row) ?_
  rintro _ rfl
  refine WL.quiet (Qt.lenS Tryd.underlying28 rfl) rfl rfl ?_
  refine WL.quiet (Qt.move rfl) rfl rfl ?_
  refine WL.nil ?_
  refine WX.next ?_
  refine WC.block ?_
  refine WC.turn (.nil) (nil_row (e := kTree) (t := 30)) ?_
  rintro _ rfl
  refine WC.loop (fun w0 : Nat × (Option Addr) × Nat × (List PT) => [(0, .int .i64 kind), (6, .pointer (some ⟨b_3, 0, none⟩)), (7, .pointer (some ⟨b_4, 0, none⟩)), (14, .slice (some ⟨b_5, 0, none⟩) 2 2), (15, .int .i64 2), (16, .int .i64 ((w0.1 : Nat) : Int))]) (fun w0 => [row kTree 30 w0.2.1 w0.2.2.1 w0.2.2.2, rd kTree (some ⟨b_5, 0, none⟩) 2 [a, b], blk b_4 30 [.int .i64 kind, .int .i64 0, .slice w0.2.1 w0.2.2.2.length w0.2.2.1], blk b_3 30 [.int .i64 0, .int .i64 0, .slice none 0 0], blk b_2 30 [.int .i64 b.kind, .int .i64 b.n, .slice B b.kids.length d], blk b_1 30 [.int .i64 a.kind, .int .i64 a.n, .slice A a.kids.length c], rd kTree A c a.kids, rd kTree B d b.kids]) (fun w0 => w0.1 ≤ 2 ∧ w0.2.2.2 = flatK kind ([a, b].take w0.1)) (fun w0 => 2 - w0.1) (0, none, 0, []) ⟨by omega, rfl⟩ ⟨rfl, rfl, rfl, rfl, rfl, rfl, trivial⟩ (.take 0 rfl (.use 0 rfl (fun _ h => h) (.take 1 rfl (.take 1 rfl (.take 1 rfl (.take 1 rfl (.use 1 rfl (fun _ h => h) (.use 2 rfl (fun _ h => h) (.nil))))))))) ?_
  rintro ⟨k, A1, c1, acc⟩ ⟨hk, hacc⟩
  try dsimp only at hk hacc
  show WC _ _ _ _ _ _ [(0, .int .i64 kind), (6, .pointer (some ⟨b_3, 0, none⟩)), (7, .pointer (some ⟨b_4, 0, none⟩)), (14, .slice (some ⟨b_5, 0, none⟩) 2 2), (15, .int .i64 2), (16, .int .i64 ((k : Nat) : Int))] [row kTree 30 A1 c1 acc, rd kTree (some ⟨b_5, 0, none⟩) 2 [a, b], blk b_4 30 [.int .i64 kind, .int .i64 0, .slice A1 acc.length c1], blk b_3 30 [.int .i64 0, .int .i64 0, .slice none 0 0], blk b_2 30 [.int .i64 b.kind, .int .i64 b.n, .slice B b.kids.length d], blk b_1 30 [.int .i64 a.kind, .int .i64 a.n, .slice A a.kids.length c], rd kTree A c a.kids, rd kTree B d b.kids]
  refine WC.seq ?_
  refine WC.region ?_
  refine WL.quiet (Qt.lss rfl rfl) rfl rfl ?_
  refine WL.nil ?_
  refine WX.next ?_
  refine WC.seq ?_
  refine WC.condD rfl (fun hc_1 => ?_) (fun hc_1 => ?_)
  ·
    refine WC.skip ?_
    refine WX.next ?_
    refine WC.seq ?_
    refine WC.block ?_
    refine WC.seq ?_
    have hab : k < [a, b].length := by show k < 2; omega
    have hfk := flatK_kid kind [a, b] k hab
    have hnk := nodes_kids [a, b][k]
    have hnab : nodesL [a, b] = a.nodes + b.nodes := by simp [nodesL]
    have hal : acc.length = (flatK kind ([a, b].take k)).length := by rw [hacc]
    have hnp := nodes_pos [a, b][k]
    refine WC.region ?_
    have hj_1 : k < [a, b].length := hab
    refine WL.learn 1 rfl (rd_at k hj_1 (vTree _)) ?_
    rintro ⟨p_1, ⟨A_1, c_1⟩⟩ hA_1
    refine WL.quiet (Qt.indexAddrE k hA_1 Tryd.underlying28 ti30 rfl rfl (by first | assumption | omega)) rfl rfl ?_
    refine WL.quiet (Qt.loadCA (p := p_1.add (k * 3)) (o := 0) 0 rfl ta30 ti30 rfl rfl) rfl rfl ?_
    refine WL.loud (.nil) (Ld.alloc ti30 rfl) trivial rfl ?_
    rintro _ _ ⟨b_6, rfl, rfl⟩
    refine WL.loud (.take 0 rfl (.nil)) (Ld.store ti30 rfl rfl rfl rfl rfl rfl) trivial rfl ?_
    rintro _ _ rfl
    refine WL.nil ?_
    refine WX.next ?_
    refine WC.seq ?_
    refine WC.region ?_
    refine WL.quiet (Qt.fieldAddrB tf30_0 rfl) rfl rfl ?_
    refine WL.quiet (Qt.loadB 0 rfl ta3 rfl rfl) rfl rfl ?_
    refine WL.quiet (Qt.move rfl) rfl rfl ?_
    refine WL.quiet (Qt.eql rfl rfl) rfl rfl ?_
    refine WL.nil ?_
    refine WX.next ?_
    refine WC.condD rfl (fun hc_2 => ?_) (fun hc_2 => ?_)
    ·
      refine WC.region ?_
      refine WL.quiet (Qt.fieldAddrB tf30_2 rfl) rfl rfl ?_
      refine WL.quiet (Qt.loadB 5 rfl ta28 rfl rfl) rfl rfl ?_
      refine WL.quiet (Qt.fieldAddrB tf30_2 rfl) rfl rfl ?_
      refine WL.quiet (Qt.loadB 0 rfl ta28 rfl rfl) rfl rfl ?_
      refine WL.loud (.take 3 rfl (.use 2 rfl (fun _ h => h) (.nil))) (Ld.appendRd (e := kTree) (xs := acc) (ys := ([a, b][k].kids)) Tryd.underlying28 ti30 rfl (by decide) (by decide) rfl rfl (by first | omega | (simp; omega))) trivial rfl ?_
      rintro _ _ ⟨A_2, c_2, rfl, rfl⟩
      refine WL.quiet (Qt.fieldAddrB tf30_2 rfl) rfl rfl ?_
      refine WL.loud (.take 5 rfl (.nil)) (Ld.store ti28 rfl rfl rfl rfl rfl rfl) trivial rfl ?_
      rintro _ _ rfl
      refine WL.nil ?_
      refine WX.block_end ?_
      refine WX.next ?_
      refine WC.region ?_
      refine WL.quiet (Qt.add rfl rfl (by omega)) rfl rfl ?_
      refine WL.quiet (Qt.move rfl) rfl rfl ?_
      refine WL.nil ?_
      exact WX.back (k + 1, A_2, c_2, acc ++ ([a, b][k].kids)) ⟨by omega, by rw [flatK_take _ _ _ hab, hacc]; first | rw [if_pos hc_2] | rw [if_neg hc_2]⟩ (by first | omega | (dsimp only; omega) | (simp; omega)) ⟨rfl, rfl, rfl, rfl, rfl, rfl, trivial⟩ (.take 1 rfl (.use 4 rfl (fun _ h => h) (.take 0 rfl (.take 4 rfl (.take 4 rfl (.take 4 rfl (.use 4 rfl (fun _ h => h) (.use 5 rfl (fun _ h => h) (.nil)))))))))
    ·
      refine WC.region ?_
      refine WL.quiet (Qt.fieldAddrB tf30_2 rfl) rfl rfl ?_
      refine WL.quiet (Qt.loadB 5 rfl ta28 rfl rfl) rfl rfl ?_
      refine WL.quiet (Qt.loadBA 0 rfl ta30 ti30 rfl rfl) rfl rfl ?_
      refine WL.loud (.nil) (Ld.buildSlice (zs := [.int .i64 0, .int .i64 0, .slice none 0 0]) Tryd.underlying28 ti30 rfl rfl (by kernel_rfl) rfl rfl) trivial rfl ?_
      rintro _ _ ⟨b_7, rfl, rfl⟩
      refine WL.loud (.take 4 rfl (.take 0 rfl (.use 2 rfl (fun _ h => h) (.nil)))) (Ld.append1 (e := kTree) (xs := acc) ([a, b][k]) Tryd.underlying28 ti30 rfl (by decide) (by decide) rfl rfl (by first | omega | (simp; omega)) (fun S w h => mkTreeE (h _ (by simp)))) trivial rfl ?_
      rintro _ _ ⟨A_3, c_3, rfl, rfl⟩
      refine WL.quiet (Qt.fieldAddrB tf30_2 rfl) rfl rfl ?_
      refine WL.loud (.take 5 rfl (.nil)) (Ld.store ti28 rfl rfl rfl rfl rfl rfl) trivial rfl ?_
      rintro _ _ rfl
      refine WL.nil ?_
      refine WX.block_end ?_
      refine WX.next ?_
      refine WC.region ?_
      refine WL.quiet (Qt.add rfl rfl (by omega)) rfl rfl ?_
      refine WL.quiet (Qt.move rfl) rfl rfl ?_
      refine WL.nil ?_
      exact WX.back (k + 1, A_3, c_3, acc ++ [[a, b][k]]) ⟨by omega, by rw [flatK_take _ _ _ hab, hacc]; first | rw [if_pos hc_2] | rw [if_neg hc_2]⟩ (by first | omega | (dsimp only; omega) | (simp; omega)) ⟨rfl, rfl, rfl, rfl, rfl, rfl, trivial⟩ (.take 1 rfl (.use 4 rfl (fun _ h => h) (.take 0 rfl (.take 4 rfl (.take 4 rfl (.take 4 rfl (.use 4 rfl (fun _ h => h) (.use 5 rfl (fun _ h => h) (.nil)))))))))
  ·
    refine WC.exit ?_
    refine WX.pass_exit ?_
    refine WX.pass_exit ?_
    refine WX.block_exit ?_
    refine WX.next ?_
    refine WC.seq ?_
    have hend : acc = flatK kind [a, b] := by rw [hacc, List.take_of_length_le (by show 2 ≤ k; omega)]
    subst hend
    refine WC.region ?_
    refine WL.quiet (Qt.loadBA 2 rfl ta30 ti30 rfl rfl) rfl rfl ?_
    refine WL.loud (.take 3 rfl (.nil)) (Ld.store ti30 rfl rfl rfl rfl rfl rfl) trivial rfl ?_
    rintro _ _ rfl
    refine WL.nil ?_
    refine WX.next ?_
    refine WC.ret ?_
    refine WX.turn (.take 1 rfl (.nil)) (freeze_row) ?_
    rintro _ rfl
    refine WX.retC 1 (.use 0 rfl (fun _ h => h) (.nil)) rfl rfl rfl ta30 ti30 rfl ?_
    exact ⟨_, _, rfl, rfl⟩

end Go.Proofs.YtkhmbhdlfpalkaaDoor.Sep

/- A walk, printed by gen.py out of hints. -/
namespace Go.Proofs.YtkhmbhdlfpalkaaDoor.Sep
open Go
variable {μ : Prop}
theorem deleteEdgeW (xs : List Edge) (b c i j : Nat) (cur : List Value) (hij : i ≤ j) (hj : j ≤ xs.length) : Spec μ Tryd.prog 27 #[.slice (some ⟨b, 0, none⟩) xs.length c, .int .i64 ((i : Nat) : Int), .int .i64 ((j : Nat) : Int)] [rowL kEdge 50 b c xs cur] fun v Δ => ∃ cur1, v = .slice (some ⟨b, 0, none⟩) (xs.take i ++ xs.drop j).length c ∧ Δ = [rowL kEdge 50 b c (xs.take i ++ xs.drop j) cur1] := by
  refine Spec.of_body (n := 33) Tryd.func27 rfl rfl rfl fun w0 S0 O0 => ?_
  show WC _ _ _ _ _ _ [(0, .slice (some ⟨b, 0, none⟩) xs.length c), (1, .int .i64 ((i : Nat) : Int)), (2, .int .i64 ((j : Nat) : Int))] [rowL kEdge 50 b c xs cur]
  refine WC.learn (Z := Unit) (Δ := fun _ => []) (φ := fun _ => xs.length ≤ c ∧ c ≤ 9223372036854775807) 0 rfl (fun S w h => ⟨(), rowL_bounds h, nofacts⟩) ?_
  rintro _ ⟨hb_1, hb_2⟩
  have hlen2 : (xs.take i ++ xs.drop j).length = i + (xs.length - j) := by rw [List.length_append, List.length_take, List.length_drop]; omega
  refine WC.seq ?_
  refine WC.region ?_
  refine WL.quiet (Qt.assign rfl) rfl rfl ?_
  refine WL.nil ?_
  refine WX.next ?_
  refine WC.seq ?_
  refine WC.region ?_
  refine WL.quiet (Qt.move rfl) rfl rfl ?_
  refine WL.quiet (Qt.move rfl) rfl rfl ?_
  refine WL.quiet (Qt.move rfl) rfl rfl ?_
  refine WL.quiet (Qt.move rfl) rfl rfl ?_
  refine WL.quiet (Qt.lenS Tryd.underlying46 rfl) rfl rfl ?_
  refine WL.quiet (Qt.cut3 Tryd.underlying46 ti50 rfl rfl rfl rfl hij hj (by omega)) rfl rfl ?_
  refine WL.nil ?_
  refine WX.next ?_
  refine WC.seq ?_
  refine WC.seq ?_
  refine WC.region ?_
  refine WL.quiet (Qt.move rfl) rfl rfl ?_
  refine WL.quiet (Qt.move rfl) rfl rfl ?_
  refine WL.quiet (Qt.eql rfl rfl) rfl rfl ?_
  refine WL.nil ?_
  refine WX.next ?_
  refine WC.condD rfl (fun hc_1 => ?_) (fun hc_1 => ?_)
  ·
    refine WC.seq ?_
    refine WC.region ?_
    refine WL.quiet (Qt.move rfl) rfl rfl ?_
    refine WL.quiet (Qt.assign rfl) rfl rfl ?_
    refine WL.nil ?_
    refine WX.next ?_
    refine WC.ret ?_
    refine WX.pass_ret ?_
    have hsame : (xs.take i ++ xs.drop j) = xs := take_drop_eq (by omega)
    rw [hsame]
    refine WX.ret1 (.take 0 rfl (.nil)) rfl rfl ?_
    exact ⟨_, rfl, rfl⟩
  ·
    refine WC.skip ?_
    refine WX.next ?_
    refine WC.seq ?_
    refine WC.region ?_
    refine WL.quiet (Qt.move rfl) rfl rfl ?_
    refine WL.quiet (Qt.lenS Tryd.underlying46 rfl) rfl rfl ?_
    refine WL.quiet (Qt.assign rfl) rfl rfl ?_
    refine WL.nil ?_
    refine WX.next ?_
    refine WC.seq ?_
    refine WC.draw (Γq := []) [0, 1, 2, 3, 4, 5, 6] mixed ?_
    refine WA.take (by kernel_rfl) 0 (by decide) rfl (by kernel_rfl) (by kernel_rfl) (by kernel_rfl) (Calm.then (calm_FQ _ _)) (Qt.move rfl) trivial rfl (.nil) ?_
    refine WA.take (by kernel_rfl) 1 (by decide) rfl (by kernel_rfl) (by kernel_rfl) (by kernel_rfl) (Calm.then (calm_FQ _ _)) (Qt.move rfl) trivial rfl (.nil) ?_
    refine WA.take (by kernel_rfl) 2 (by decide) rfl (by kernel_rfl) (by kernel_rfl) (by kernel_rfl) (Calm.then (calm_FQ _ _)) (Qt.cutHigh Tryd.underlying46 ti50 rfl rfl (by omega)) trivial rfl (.nil) ?_
    refine WA.take (by kernel_rfl) 3 (by decide) rfl (by kernel_rfl) (by kernel_rfl) (by kernel_rfl) (Calm.then (calm_FQ _ _)) (Qt.move rfl) trivial rfl (.nil) ?_
    refine WA.take (by kernel_rfl) 4 (by decide) rfl (by kernel_rfl) (by kernel_rfl) (by kernel_rfl) (Calm.then (calm_FQ _ _)) (Qt.move rfl) trivial rfl (.nil) ?_
    refine WA.take (by kernel_rfl) 5 (by decide) rfl (by kernel_rfl) (by kernel_rfl) (by kernel_rfl) (Calm.then (calm_FQ _ _)) (Qt.cutLowB Tryd.underlying46 ti50 rfl rfl hj (by omega)) trivial rfl (.nil) ?_
    refine WA.one 6 (by kernel_rfl) ?_
    refine WO.loud rfl (.take 0 rfl (.nil)) (Ld.appendSelf Tryd.underlying46 ti50 rfl rfl hij hj) trivial rfl (by rintro _ _ ⟨rfl, rfl⟩; exact ⟨_, (.nil)⟩) ?_
    rintro _ _ ⟨rfl, rfl⟩
    refine WA.phase (K' := [0, 1, 2, 3, 4, 5, 6, 7]) (Γq' := [rowL kEdge 50 b c (xs.take i ++ xs.drop j) (gone 5 cur i j xs.length)]) (by kernel_rfl) ?_
    refine WA.take (by kernel_rfl) 7 (by decide) rfl (by kernel_rfl) (by kernel_rfl) (by kernel_rfl) (Calm.then (calm_FQ _ _)) (Qt.assign rfl) trivial rfl (.take 0 rfl (.nil)) ?_
    refine WA.done (by kernel_rfl) ?_
    refine WX.next ?_
    refine WC.seq ?_
    refine WC.region ?_
    refine WL.quiet (Qt.move rfl) rfl rfl ?_
    refine WL.quiet (Qt.move rfl) rfl rfl ?_
    refine WL.quiet (Qt.lenS Tryd.underlying46 rfl) rfl rfl ?_
    refine WL.quiet (Qt.move rfl) rfl rfl ?_
    refine WL.quiet (Qt.cutMid Tryd.underlying46 ti50 rfl rfl rfl (by omega) (by omega)) rfl rfl ?_
    refine WL.loud (.take 0 rfl (.nil)) (Ld.clearR (i := (xs.take i ++ xs.drop j).length) (m := xs.length) Tryd.underlying46 ti50 rfl rfl rfl (Nat.le_refl _) (by omega) (by omega)) trivial rfl ?_
    rintro _ _ ⟨cur_1, rfl, rfl⟩
    refine WL.nil ?_
    refine WX.next ?_
    refine WC.seq ?_
    refine WC.region ?_
    refine WL.quiet (Qt.move rfl) rfl rfl ?_
    refine WL.quiet (Qt.assign rfl) rfl rfl ?_
    refine WL.nil ?_
    refine WX.next ?_
    refine WC.ret ?_
    refine WX.ret1 (.take 0 rfl (.nil)) rfl rfl ?_
    exact ⟨_, rfl, rfl⟩
theorem deleteEdgeW' (xs : List Edge) (b c i j n : Nat) (cur : List Value) (hn : xs.length = n) (hij : i ≤ j) (hj : j ≤ xs.length) : Spec μ Tryd.prog 27 #[.slice (some ⟨b, 0, none⟩) n c, .int .i64 ((i : Nat) : Int), .int .i64 ((j : Nat) : Int)] [rowL kEdge 50 b c xs cur] fun v Δ => ∃ cur1, v = .slice (some ⟨b, 0, none⟩) (xs.take i ++ xs.drop j).length c ∧ Δ = [rowL kEdge 50 b c (xs.take i ++ xs.drop j) cur1] := by
  subst hn
  exact deleteEdgeW xs b c i j cur hij hj

end Go.Proofs.YtkhmbhdlfpalkaaDoor.Sep

/- A walk, printed by gen.py out of hints. -/
namespace Go.Proofs.YtkhmbhdlfpalkaaDoor.Sep
open Go
variable {μ : Prop}
theorem parallelW (xs : List Edge) (b c : Nat) (cur : List Value) (hnd : 2 * nodesE xs ≤ 1000000) : Spec μ Tryd.prog 13 #[.slice (some ⟨b, 0, none⟩) xs.length c] [rowL kEdge 50 b c xs cur] fun v Δ => ∃ ys cur1 r, v = .tuple [.slice (some ⟨b, 0, none⟩) ys.length c, .bool r].toArray ∧ Δ = [rowL kEdge 50 b c ys cur1] ∧ ParStep xs ys r := by
  refine Spec.of_body (n := 49) Tryd.func13 rfl rfl rfl fun w0 S0 O0 => ?_
  show WC _ _ _ _ _ _ [(0, .slice (some ⟨b, 0, none⟩) xs.length c)] [rowL kEdge 50 b c xs cur]
  refine WC.learn (Z := Unit) (Δ := fun _ => []) (φ := fun _ => xs.length ≤ c ∧ c ≤ 9223372036854775807) 0 rfl (fun S w h => ⟨(), rowL_bounds h, nofacts⟩) ?_
  rintro _ ⟨hb_1, hb_2⟩
  refine WC.seq ?_
  refine WC.region ?_
  refine WL.quiet (Qt.assign rfl) rfl rfl ?_
  refine WL.quiet (Qt.assign rfl) rfl rfl ?_
  refine WL.nil ?_
  refine WX.next ?_
  refine WC.seq ?_
  refine WC.seq ?_
  refine WC.region ?_
  refine WL.quiet (Qt.move rfl) rfl rfl ?_
  refine WL.quiet (Qt.lenS Tryd.underlying46 rfl) rfl rfl ?_
  refine WL.quiet (Qt.move rfl) rfl rfl ?_
  refine WL.nil ?_
  refine WX.next ?_
  refine WC.block ?_
  refine WC.loop (fun w0 : Nat => [(0, .slice (some ⟨b, 0, none⟩) xs.length c), (2, .slice none 0 0), (3, .bool false), (7, .slice (some ⟨b, 0, none⟩) xs.length c), (8, .int .i64 ((xs.length : Nat) : Int)), (9, .int .i64 ((w0 : Nat) : Int))]) (fun w0 => [rowL kEdge 50 b c xs cur]) (fun w0 => w0 ≤ xs.length ∧ ∀ (i j : Nat) (hj : j < xs.length) (hij : i < j), i < w0 → ¬ (xs[j].frm = xs[i].frm ∧ xs[j].to = xs[i].to)) (fun w0 => xs.length - w0) 0 ⟨Nat.zero_le _, fun i j _ _ h => absurd h (Nat.not_lt_zero _)⟩ ⟨rfl, rfl, rfl, rfl, rfl, rfl, trivial⟩ (.take 0 rfl (.nil)) ?_
  rintro k ⟨hk, hno⟩
  try dsimp only at hk hno
  show WC _ _ _ _ _ _ [(0, .slice (some ⟨b, 0, none⟩) xs.length c), (2, .slice none 0 0), (3, .bool false), (7, .slice (some ⟨b, 0, none⟩) xs.length c), (8, .int .i64 ((xs.length : Nat) : Int)), (9, .int .i64 ((k : Nat) : Int))] [rowL kEdge 50 b c xs cur]
  refine WC.seq ?_
  refine WC.region ?_
  refine WL.quiet (Qt.lss rfl rfl) rfl rfl ?_
  refine WL.nil ?_
  refine WX.next ?_
  refine WC.seq ?_
  refine WC.condD rfl (fun hc_1 => ?_) (fun hc_1 => ?_)
  ·
    refine WC.skip ?_
    refine WX.next ?_
    refine WC.seq ?_
    refine WC.block ?_
    refine WC.seq ?_
    refine WC.region ?_
    refine WL.quiet (Qt.move rfl) rfl rfl ?_
    have hj_1 : k < xs.length := by omega
    refine WL.learn 0 rfl (rowL_at k hj_1 (vEdge _)) ?_
    rintro ⟨A_1, c_1⟩ hel_1
    refine WL.quiet (Qt.indexAddrB k Tryd.underlying46 ti50 rfl rfl (by first | assumption | omega)) rfl rfl ?_
    refine WL.quiet (Qt.loadRA (j := k) (o := 0) 1 rfl hel_1 ta50 ti50 rfl rfl) rfl rfl ?_
    refine WL.loud (.nil) (Ld.alloc ti50 rfl) trivial rfl ?_
    rintro _ _ ⟨b_1, rfl, rfl⟩
    refine WL.quiet (Qt.assign rfl) rfl rfl ?_
    refine WL.loud (.take 0 rfl (.nil)) (Ld.store ti50 rfl rfl rfl rfl rfl rfl) trivial rfl ?_
    rintro _ _ rfl
    refine WL.nil ?_
    refine WX.next ?_
    refine WC.seq ?_
    refine WC.region ?_
    refine WL.quiet (Qt.move rfl) rfl rfl ?_
    refine WL.quiet (Qt.move rfl) rfl rfl ?_
    refine WL.quiet (Qt.add rfl rfl (by omega)) rfl rfl ?_
    refine WL.quiet (Qt.cutLowX xs (k + 1) Tryd.underlying46 ti50 rfl rfl (by omega) (by omega)) rfl rfl ?_
    refine WL.quiet (Qt.makeFunc (vs := []) rfl rfl) rfl rfl ?_
    refine WL.call (.take 2 rfl (.take 0 rfl (.use 0 rfl (fun _ h => h) (.nil)))) (Cl.func cb24 rfl) (Spec.borrow (e := kEdge) (Γp := [blk b_1 50 [.string (xs[k].frm), .string (xs[k].to), .int .i64 (xs[k].t.kind), .int .i64 (xs[k].t.n), .slice A_1 (xs[k].t.kids.length) c_1]]) (U := [rd kTree A_1 c_1 (xs[k].t.kids)]) (fun F hF => by obtain rfl := List.mem_singleton.1 hF; exact free_blk _ _ _) (fun F hF => by obtain rfl := List.mem_singleton.1 hF; exact (fun _ h => h)) (rd_drop_ok (k + 1)) (indexEdgeW (xs.drop (k + 1)) _ _ 25 [.pointer (some ⟨b_1, 0, none⟩)] (blk b_1 50 [.string (xs[k].frm), .string (xs[k].to), .int .i64 (xs[k].t.kind), .int .i64 (xs[k].t.n), .slice A_1 (xs[k].t.kids.length) c_1]) (rd kTree A_1 c_1 (xs[k].t.kids)) (fun y => decide (y.frm = xs[k].frm ∧ y.to = xs[k].to)) cb25 (fun _ h => h) (fun j hj A2 c2 => Spec.less (.take 0 rfl (.take 0 rfl .nil)) (samePairW ((xs.drop (k + 1))[j]) xs[k] A2 _ c2 _ b_1)))) trivial rfl ?_
    rintro _ _ ⟨rfl, rfl⟩
    refine WL.quiet (Qt.assign rfl) rfl rfl ?_
    refine WL.nil ?_
    refine WX.next ?_
    refine WC.seq ?_
    refine WC.region ?_
    refine WL.quiet (Qt.move rfl) rfl rfl ?_
    refine WL.quiet (Qt.geq rfl rfl) rfl rfl ?_
    refine WL.nil ?_
    refine WX.next ?_
    refine WC.condD rfl (fun hc_2 => ?_) (fun hc_2 => ?_)
    ·
      refine WC.seq ?_
      obtain ⟨m, hm, hme, hmp⟩ := idxF_pos hc_2
      rw [List.length_drop] at hm
      have hkm : k + 1 + m < xs.length := by omega
      rw [hme]
      rw [List.getElem_drop] at hmp
      have hn1 := nodesE_get xs k (by omega)
      have hn2 := nodesE_get xs (k + 1 + m) hkm
      have hj_2 : k + 1 + m < xs.length := by omega
      refine WC.learn 0 rfl (rowL_at (k + 1 + m) hj_2 (vEdge _)) ?_
      rintro ⟨A_2, c_2⟩ hel_2
      refine WC.draw (Γq := [rd kTree A_2 c_2 (xs[k + 1 + m].t.kids), rowL kEdge 50 b c xs cur, blk b_1 50 [.string (xs[k].frm), .string (xs[k].to), .int .i64 (xs[k].t.kind), .int .i64 (xs[k].t.n), .slice A_1 (xs[k].t.kids.length) c_1], rd kTree A_1 c_1 (xs[k].t.kids)]) [0, 1, 2, 3, 4, 5, 6, 7, 8, 9, 10, 11, 12] mixed ?_
      refine WA.take (by kernel_rfl) 0 (by decide) rfl (by kernel_rfl) (by kernel_rfl) (by kernel_rfl) (Calm.then (Calm.inBlock (Calm.then (Calm.then (Calm.inBlock (Calm.then (calm_FQ _ _))))))) (Qt.move rfl) trivial rfl (.use 0 rfl (fun _ h => h) (.take 1 rfl (.take 1 rfl (.use 1 rfl (fun _ h => h) (.nil))))) ?_
      refine WA.take (by kernel_rfl) 1 (by decide) rfl (by kernel_rfl) (by kernel_rfl) (by kernel_rfl) (Calm.then (Calm.inBlock (Calm.then (Calm.then (Calm.inBlock (Calm.then (calm_FQ _ _))))))) (Qt.move rfl) trivial rfl (.use 0 rfl (fun _ h => h) (.take 1 rfl (.take 1 rfl (.use 1 rfl (fun _ h => h) (.nil))))) ?_
      refine WA.take (by kernel_rfl) 2 (by decide) rfl (by kernel_rfl) (by kernel_rfl) (by kernel_rfl) (Calm.then (Calm.inBlock (Calm.then (Calm.then (Calm.inBlock (Calm.then (calm_FQ _ _))))))) (Qt.fieldAddrB tf50_1 rfl) trivial rfl (.use 0 rfl (fun _ h => h) (.take 1 rfl (.take 1 rfl (.use 1 rfl (fun _ h => h) (.nil))))) ?_
      refine WA.take (by kernel_rfl) 3 (by decide) rfl (by kernel_rfl) (by kernel_rfl) (by kernel_rfl) (Calm.then (Calm.inBlock (Calm.then (Calm.then (Calm.inBlock (Calm.then (calm_FQ _ _))))))) (Qt.loadBA 2 rfl ta30 ti30 rfl rfl) trivial rfl (.use 0 rfl (fun _ h => h) (.take 1 rfl (.take 1 rfl (.use 1 rfl (fun _ h => h) (.nil))))) ?_
      refine WA.take (by kernel_rfl) 4 (by decide) rfl (by kernel_rfl) (by kernel_rfl) (by kernel_rfl) (Calm.then (Calm.inBlock (Calm.then (Calm.then (Calm.inBlock (Calm.then (calm_FQ _ _))))))) (Qt.move rfl) trivial rfl (.use 0 rfl (fun _ h => h) (.take 1 rfl (.take 1 rfl (.use 1 rfl (fun _ h => h) (.nil))))) ?_
      refine WA.take (by kernel_rfl) 5 (by decide) rfl (by kernel_rfl) (by kernel_rfl) (by kernel_rfl) (Calm.then (Calm.inBlock (Calm.then (Calm.then (Calm.inBlock (Calm.then (calm_FQ _ _))))))) (Qt.move rfl) trivial rfl (.use 0 rfl (fun _ h => h) (.take 1 rfl (.take 1 rfl (.use 1 rfl (fun _ h => h) (.nil))))) ?_
      refine WA.take (by kernel_rfl) 6 (by decide) rfl (by kernel_rfl) (by kernel_rfl) (by kernel_rfl) (Calm.then (Calm.inBlock (Calm.then (Calm.then (Calm.inBlock (Calm.then (calm_FQ _ _))))))) (Qt.add rfl rfl (by omega)) trivial rfl (.use 0 rfl (fun _ h => h) (.take 1 rfl (.take 1 rfl (.use 1 rfl (fun _ h => h) (.nil))))) ?_
      refine WA.take (by kernel_rfl) 7 (by decide) rfl (by kernel_rfl) (by kernel_rfl) (by kernel_rfl) (Calm.then (Calm.inBlock (Calm.then (Calm.then (Calm.inBlock (Calm.then (calm_FQ _ _))))))) (Qt.move rfl) trivial rfl (.use 0 rfl (fun _ h => h) (.take 1 rfl (.take 1 rfl (.use 1 rfl (fun _ h => h) (.nil))))) ?_
      refine WA.take (by kernel_rfl) 8 (by decide) rfl (by kernel_rfl) (by kernel_rfl) (by kernel_rfl) (Calm.then (Calm.inBlock (Calm.then (Calm.then (Calm.inBlock (Calm.then (calm_FQ _ _))))))) (Qt.add rfl rfl (by omega)) trivial rfl (.use 0 rfl (fun _ h => h) (.take 1 rfl (.take 1 rfl (.use 1 rfl (fun _ h => h) (.nil))))) ?_
      refine WA.take (by kernel_rfl) 9 (by decide) rfl (by kernel_rfl) (by kernel_rfl) (by kernel_rfl) (Calm.then (Calm.inBlock (Calm.then (Calm.then (Calm.inBlock (Calm.then (calm_FQ _ _))))))) (Qt.indexAddrB (k + 1 + m) Tryd.underlying46 ti50 rfl rfl (by first | assumption | omega)) trivial rfl (.use 0 rfl (fun _ h => h) (.take 1 rfl (.take 1 rfl (.use 1 rfl (fun _ h => h) (.nil))))) ?_
      refine WA.take (by kernel_rfl) 10 (by decide) rfl (by kernel_rfl) (by kernel_rfl) (by kernel_rfl) (Calm.then (Calm.inBlock (Calm.then (Calm.then (Calm.inBlock (Calm.then (calm_FQ _ _))))))) (Qt.fieldAddrB tf50_1 rfl) trivial rfl (.use 0 rfl (fun _ h => h) (.take 1 rfl (.take 1 rfl (.use 1 rfl (fun _ h => h) (.nil))))) ?_
      refine WA.take (by kernel_rfl) 11 (by decide) rfl (by kernel_rfl) (by kernel_rfl) (by kernel_rfl) (Calm.then (Calm.inBlock (Calm.then (Calm.then (Calm.inBlock (Calm.then (calm_FQ _ _))))))) (Qt.loadRA (j := (k + 1 + m)) (o := 2) 1 rfl hel_2 ta30 ti30 rfl rfl) trivial rfl (.use 0 rfl (fun _ h => h) (.take 1 rfl (.take 1 rfl (.use 1 rfl (fun _ h => h) (.nil))))) ?_
      refine WA.one 12 (by kernel_rfl) ?_
      refine WO.call rfl (.use 3 rfl (fun _ h => h) (.use 0 rfl (fun _ h => h) (.nil))) (Cl.func cb26 rfl) (joinW 2 (xs[k].t) (xs[k + 1 + m].t) _ _ _ _ (by omega)) trivial rfl (by rintro _ _ ⟨A_3, c_3, rfl, rfl⟩; exact ⟨_, (.use 1 rfl (fun _ h => h) (.take 2 rfl (.take 2 rfl (.use 2 rfl (fun _ h => h) (.nil)))))⟩) ?_
      rintro _ _ ⟨A_3, c_3, rfl, rfl⟩
      refine WA.phase (K' := [0, 1, 2, 3, 4, 5, 6, 7, 8, 9, 10, 11, 12, 13, 14, 15]) (Γq' := [rd kTree A_3 c_3 ((joinT 2 (xs[k].t) (xs[k + 1 + m].t)).kids), rd kTree A_2 c_2 (xs[k + 1 + m].t.kids), blk b_1 50 [.string (xs[k].frm), .string (xs[k].to), .int .i64 (xs[k].t.kind), .int .i64 (xs[k].t.n), .slice A_1 (xs[k].t.kids.length) c_1], rd kTree A_1 c_1 (xs[k].t.kids)]) (by kernel_rfl) ?_
      refine WA.one 13 (by kernel_rfl) ?_
      refine WO.quiet rfl (Qt.indexAddrB k Tryd.underlying46 ti50 rfl rfl (by first | assumption | omega)) trivial rfl (.use 0 rfl (fun _ h => h) (.use 1 rfl (fun _ h => h) (.take 3 rfl (.use 3 rfl (fun _ h => h) (.nil))))) ?_
      refine WA.take (by kernel_rfl) 14 (by decide) rfl (by kernel_rfl) (by kernel_rfl) (by kernel_rfl) (Calm.then (Calm.inBlock (Calm.then (Calm.then (Calm.inBlock (Calm.then (calm_FQ _ _))))))) (Qt.fieldAddrB tf50_1 rfl) trivial rfl (.use 0 rfl (fun _ h => h) (.use 1 rfl (fun _ h => h) (.take 3 rfl (.use 3 rfl (fun _ h => h) (.nil))))) ?_
      refine WA.one 15 (by kernel_rfl) ?_
      refine WO.loud rfl (.take 2 rfl (.use 0 rfl (fun _ h => h) (.nil))) (Ld.storeR (j := k) (o := 2) ⟨xs[k].frm, xs[k].to, (joinT 2 (xs[k].t) (xs[k + 1 + m].t))⟩ (by first | assumption | omega | (simp; omega)) hel_1 ti30 rfl rfl rfl rfl rfl rfl (fun S w h => mkEdgeE (h _ (by simp)))) trivial rfl (by rintro _ _ ⟨cur_1, hel_3, hoth_1, rfl⟩; exact ⟨_, (.use 1 rfl (fun _ h => h) (.use 2 rfl (fun _ h => h) (.take 3 rfl (.use 3 rfl (fun _ h => h) (.nil)))))⟩) ?_
      rintro _ _ ⟨cur_1, hel_3, hoth_1, rfl⟩
      refine WA.done (by kernel_rfl) ?_
      refine WX.next ?_
      refine WC.seq ?_
      refine WC.region ?_
      refine WL.quiet (Qt.move rfl) rfl rfl ?_
      refine WL.quiet (Qt.move rfl) rfl rfl ?_
      refine WL.quiet (Qt.add rfl rfl (by omega)) rfl rfl ?_
      refine WL.quiet (Qt.move rfl) rfl rfl ?_
      refine WL.quiet (Qt.add rfl rfl (by omega)) rfl rfl ?_
      refine WL.quiet (Qt.move rfl) rfl rfl ?_
      refine WL.quiet (Qt.add rfl rfl (by omega)) rfl rfl ?_
      refine WL.quiet (Qt.move rfl) rfl rfl ?_
      refine WL.quiet (Qt.add rfl rfl (by omega)) rfl rfl ?_
      refine WL.call (.take 0 rfl (.nil)) (Cl.func cb27 rfl) (deleteEdgeW' (xs.set k ⟨xs[k].frm, xs[k].to, (joinT 2 (xs[k].t) (xs[k + 1 + m].t))⟩) _ _ (k + 1 + m) (k + 2 + m) _ _ (List.length_set ..) (by omega) (by rw [List.length_set]; omega)) trivial rfl ?_
      rintro _ _ ⟨cur_2, rfl, rfl⟩
      refine WL.quiet (Qt.assign rfl) rfl rfl ?_
      refine WL.quiet (Qt.assign rfl) rfl rfl ?_
      refine WL.nil ?_
      refine WX.next ?_
      refine WC.ret ?_
      refine WX.block_ret ?_
      refine WX.pass_ret ?_
      refine WX.pass_ret ?_
      refine WX.block_ret ?_
      refine WX.pass_ret ?_
      refine WX.ret2 (.take 0 rfl (.nil)) rfl rfl rfl ?_
      exact ⟨_, _, true, rfl, rfl, .inr ⟨rfl, k, k + 1 + m, by omega, hkm, of_decide_eq_true hmp, by rw [show k + 2 + m = k + 1 + m + 1 by omega]⟩⟩
    ·
      refine WC.skip ?_
      refine WX.block_end ?_
      refine WX.next ?_
      refine WC.region ?_
      refine WL.quiet (Qt.add rfl rfl (by omega)) rfl rfl ?_
      refine WL.quiet (Qt.move rfl) rfl rfl ?_
      refine WL.nil ?_
      exact WX.back (k + 1) ⟨by omega, fun i j hj hij hik hp => par_none hno (fun j hj h => none_after hc_2 j hj h) i j hj hij hik hp⟩ (by first | omega | (dsimp only; omega) | (simp; omega)) ⟨rfl, rfl, rfl, rfl, rfl, rfl, trivial⟩ (.take 0 rfl (.nil))
  ·
    refine WC.exit ?_
    refine WX.pass_exit ?_
    refine WX.pass_exit ?_
    refine WX.block_exit ?_
    refine WX.next ?_
    refine WC.seq ?_
    refine WC.region ?_
    refine WL.quiet (Qt.move rfl) rfl rfl ?_
    refine WL.quiet (Qt.assign rfl) rfl rfl ?_
    refine WL.quiet (Qt.assign rfl) rfl rfl ?_
    refine WL.nil ?_
    refine WX.next ?_
    refine WC.ret ?_
    refine WX.ret2 (.take 0 rfl (.nil)) rfl rfl rfl ?_
    exact ⟨_, _, false, rfl, rfl, .inl ⟨rfl, rfl, fun i j hj hij => hno i j hj hij (by omega)⟩⟩

end Go.Proofs.YtkhmbhdlfpalkaaDoor.Sep

/- A walk, printed by gen.py out of hints. -/
namespace Go.Proofs.YtkhmbhdlfpalkaaDoor.Sep
open Go
variable {μ : Prop}
theorem seriesW (xs : List Edge) (b c : Nat) (cur : List Value) (hnd : 2 * nodesE xs ≤ 1000000) : Spec μ Tryd.prog 14 #[.slice (some ⟨b, 0, none⟩) xs.length c] [rowL kEdge 50 b c xs cur] fun v Δ => ∃ ys cur1 r, v = .tuple [.slice (some ⟨b, 0, none⟩) ys.length c, .bool r].toArray ∧ Δ = [rowL kEdge 50 b c ys cur1] ∧ SerStep xs ys r := by
  refine Spec.of_body (n := 90) Tryd.func14 rfl rfl rfl fun w0 S0 O0 => ?_
  show WC _ _ _ _ _ _ [(0, .slice (some ⟨b, 0, none⟩) xs.length c)] [rowL kEdge 50 b c xs cur]
  refine WC.learn (Z := Unit) (Δ := fun _ => []) (φ := fun _ => xs.length ≤ c ∧ c ≤ 9223372036854775807) 0 rfl (fun S w h => ⟨(), rowL_bounds h, nofacts⟩) ?_
  rintro _ ⟨hb_1, hb_2⟩
  refine WC.seq ?_
  refine WC.region ?_
  refine WL.quiet (Qt.assign rfl) rfl rfl ?_
  refine WL.quiet (Qt.assign rfl) rfl rfl ?_
  refine WL.nil ?_
  refine WX.next ?_
  refine WC.seq ?_
  refine WC.seq ?_
  refine WC.region ?_
  refine WL.quiet (Qt.move rfl) rfl rfl ?_
  refine WL.quiet (Qt.lenS Tryd.underlying46 rfl) rfl rfl ?_
  refine WL.quiet (Qt.move rfl) rfl rfl ?_
  refine WL.nil ?_
  refine WX.next ?_
  refine WC.block ?_
  refine WC.loop (fun w0 : Nat => [(0, .slice (some ⟨b, 0, none⟩) xs.length c), (2, .slice none 0 0), (3, .bool false), (11, .slice (some ⟨b, 0, none⟩) xs.length c), (12, .int .i64 ((xs.length : Nat) : Int)), (13, .int .i64 ((w0 : Nat) : Int))]) (fun w0 => [rowL kEdge 50 b c xs cur]) (fun w0 => w0 ≤ xs.length ∧ ∀ (i : Nat) (hi : i < xs.length), i < w0 → (xs[i].to = sL ∨ xs[i].to = sR) ∨ ¬ (comes xs[i].to xs = 1 ∧ leaves xs[i].to xs = 1)) (fun w0 => xs.length - w0) 0 ⟨Nat.zero_le _, fun i _ h => absurd h (Nat.not_lt_zero _)⟩ ⟨rfl, rfl, rfl, rfl, rfl, rfl, trivial⟩ (.take 0 rfl (.nil)) ?_
  rintro k ⟨hk, hno⟩
  try dsimp only at hk hno
  show WC _ _ _ _ _ _ [(0, .slice (some ⟨b, 0, none⟩) xs.length c), (2, .slice none 0 0), (3, .bool false), (11, .slice (some ⟨b, 0, none⟩) xs.length c), (12, .int .i64 ((xs.length : Nat) : Int)), (13, .int .i64 ((k : Nat) : Int))] [rowL kEdge 50 b c xs cur]
  refine WC.seq ?_
  refine WC.region ?_
  refine WL.quiet (Qt.lss rfl rfl) rfl rfl ?_
  refine WL.nil ?_
  refine WX.next ?_
  refine WC.seq ?_
  refine WC.condD rfl (fun hc_1 => ?_) (fun hc_1 => ?_)
  ·
    refine WC.skip ?_
    refine WX.next ?_
    refine WC.seq ?_
    refine WC.block ?_
    refine WC.seq ?_
    refine WC.region ?_
    refine WL.quiet (Qt.move rfl) rfl rfl ?_
    have hj_1 : k < xs.length := by omega
    refine WL.learn 0 rfl (rowL_at k hj_1 (vEdge _)) ?_
    rintro ⟨A_1, c_1⟩ hel_1
    refine WL.quiet (Qt.indexAddrB k Tryd.underlying46 ti50 rfl rfl (by first | assumption | omega)) rfl rfl ?_
    refine WL.quiet (Qt.loadRA (j := k) (o := 0) 1 rfl hel_1 ta50 ti50 rfl rfl) rfl rfl ?_
    refine WL.loud (.nil) (Ld.alloc ti50 rfl) trivial rfl ?_
    rintro _ _ ⟨b_1, rfl, rfl⟩
    refine WL.quiet (Qt.assign rfl) rfl rfl ?_
    refine WL.loud (.take 0 rfl (.nil)) (Ld.store ti50 rfl rfl rfl rfl rfl rfl) trivial rfl ?_
    rintro _ _ rfl
    refine WL.nil ?_
    refine WX.next ?_
    refine WC.seq ?_
    refine WC.cut (fun _ : Unit => [(0, .slice (some ⟨b, 0, none⟩) xs.length c), (2, .slice none 0 0), (3, .bool false), (11, .slice (some ⟨b, 0, none⟩) xs.length c), (12, .int .i64 ((xs.length : Nat) : Int)), (13, .int .i64 ((k : Nat) : Int)), (14, .bool (decide (((k : Nat) : Int) < ((xs.length : Nat) : Int)))), (15, .int .i64 ((k : Nat) : Int)), (16, .pointer (some ⟨b, k * 5, none⟩)), (17, .agg [.string (xs[k].frm), .string (xs[k].to), .int .i64 (xs[k].t.kind), .int .i64 (xs[k].t.n), .slice A_1 (xs[k].t.kids.length) c_1].toArray), (5, .pointer (some ⟨b_1, 0, none⟩)), (4, .int .i64 ((k : Nat) : Int)), (18, .pointer (some ⟨b_1, 0, none⟩)), (19, .pointer (some ⟨b_1, 1, none⟩)), (20, .string (xs[k].to)), (21, .bool (decide ((xs[k].to) = (⟨#[76]⟩ : ByteArray)))), (22, .bool (decide ((xs[k].to) = (⟨#[76]⟩ : ByteArray)))), (27, .bool (decide (((xs[k].to) = (⟨#[76]⟩ : ByteArray)) ∨ ((xs[k].to) = (⟨#[82]⟩ : ByteArray)))))]) (fun _ => [blk b_1 50 [.string (xs[k].frm), .string (xs[k].to), .int .i64 (xs[k].t.kind), .int .i64 (xs[k].t.n), .slice A_1 (xs[k].t.kids.length) c_1], rd kTree A_1 c_1 (xs[k].t.kids), rowL kEdge 50 b c xs cur]) (fun _ => True) ?_ ?_
    ·
      refine WC.region ?_
      refine WL.quiet (Qt.fieldAddrB tf50_0 rfl) rfl rfl ?_
      refine WL.quiet (Qt.fieldAddrB tf48_1 rfl) rfl rfl ?_
      refine WL.quiet (Qt.loadB 0 rfl ta9 rfl rfl) rfl rfl ?_
      refine WL.quiet (Qt.seql rfl rfl) rfl rfl ?_
      refine WL.quiet (Qt.move rfl) rfl rfl ?_
      refine WL.splitD 22 rfl rfl (fun hg_1 => ?_) (fun hg_1 => ?_)
      ·
        refine WL.skipG 4 false true rfl 22 rfl rfl rfl rfl ?_
        refine WL.skipG 4 false true rfl 22 rfl rfl rfl rfl ?_
        refine WL.skipG 4 false true rfl 22 rfl rfl rfl rfl ?_
        refine WL.skipG 4 false true rfl 22 rfl rfl rfl rfl ?_
        refine WL.quiet (Qt.pickT rfl rfl) rfl rfl ?_
        refine WL.nil ?_
        exact WX.cut () trivial ⟨rfl, rfl, rfl, rfl, rfl, rfl, rfl, rfl, rfl, rfl, rfl, rfl, rfl, rfl, rfl, rfl, (by rw [show decide ((xs[k].to) = (⟨#[76]⟩ : ByteArray)) = true from by first | (simp [hg_1]; done) | exact decide_eq_decide.2 (by omega) | exact decide_eq_true (by omega) | exact decide_eq_false (by omega) | (simp [hg_1] <;> omega)]; rfl), (by rw [show decide (((xs[k].to) = (⟨#[76]⟩ : ByteArray)) ∨ ((xs[k].to) = (⟨#[82]⟩ : ByteArray))) = true from by first | (simp [hg_1]; done) | exact decide_eq_decide.2 (by omega) | exact decide_eq_true (by omega) | exact decide_eq_false (by omega) | (simp [hg_1] <;> omega)]; rfl), trivial⟩ (.take 0 rfl (.use 0 rfl (fun _ h => h) (.take 1 rfl (.nil))))
      ·
        refine WL.quietG 4 false rfl 22 rfl rfl (Qt.fieldAddrB tf50_0 rfl) rfl ?_
        refine WL.quietG 4 false rfl 22 rfl rfl (Qt.fieldAddrB tf48_1 rfl) rfl ?_
        refine WL.quietG 4 false rfl 22 rfl rfl (Qt.loadB 0 rfl ta9 rfl rfl) rfl ?_
        refine WL.quietG 4 false rfl 22 rfl rfl (Qt.seql rfl rfl) rfl ?_
        refine WL.quiet (Qt.pickF rfl rfl) rfl rfl ?_
        refine WL.nil ?_
        exact WX.cut () trivial ⟨rfl, rfl, rfl, rfl, rfl, rfl, rfl, rfl, rfl, rfl, rfl, rfl, rfl, rfl, rfl, rfl, (by rw [show decide ((xs[k].to) = (⟨#[76]⟩ : ByteArray)) = false from by first | (simp [hg_1]; done) | exact decide_eq_decide.2 (by omega) | exact decide_eq_true (by omega) | exact decide_eq_false (by omega) | (simp [hg_1] <;> omega)]; rfl), (by rw [show decide (((xs[k].to) = (⟨#[76]⟩ : ByteArray)) ∨ ((xs[k].to) = (⟨#[82]⟩ : ByteArray))) = (decide ((xs[k].to) = (⟨#[82]⟩ : ByteArray))) from by first | (simp [hg_1]; done) | exact decide_eq_decide.2 (by omega) | exact decide_eq_true (by omega) | exact decide_eq_false (by omega) | (simp [hg_1] <;> omega)]; rfl), trivial⟩ (.take 0 rfl (.use 0 rfl (fun _ h => h) (.take 1 rfl (.nil))))
    ·
      intro _ _
      show WC _ _ _ _ _ _ [(0, .slice (some ⟨b, 0, none⟩) xs.length c), (2, .slice none 0 0), (3, .bool false), (11, .slice (some ⟨b, 0, none⟩) xs.length c), (12, .int .i64 ((xs.length : Nat) : Int)), (13, .int .i64 ((k : Nat) : Int)), (14, .bool (decide (((k : Nat) : Int) < ((xs.length : Nat) : Int)))), (15, .int .i64 ((k : Nat) : Int)), (16, .pointer (some ⟨b, k * 5, none⟩)), (17, .agg [.string (xs[k].frm), .string (xs[k].to), .int .i64 (xs[k].t.kind), .int .i64 (xs[k].t.n), .slice A_1 (xs[k].t.kids.length) c_1].toArray), (5, .pointer (some ⟨b_1, 0, none⟩)), (4, .int .i64 ((k : Nat) : Int)), (18, .pointer (some ⟨b_1, 0, none⟩)), (19, .pointer (some ⟨b_1, 1, none⟩)), (20, .string (xs[k].to)), (21, .bool (decide ((xs[k].to) = (⟨#[76]⟩ : ByteArray)))), (22, .bool (decide ((xs[k].to) = (⟨#[76]⟩ : ByteArray)))), (27, .bool (decide (((xs[k].to) = (⟨#[76]⟩ : ByteArray)) ∨ ((xs[k].to) = (⟨#[82]⟩ : ByteArray)))))] [blk b_1 50 [.string (xs[k].frm), .string (xs[k].to), .int .i64 (xs[k].t.kind), .int .i64 (xs[k].t.n), .slice A_1 (xs[k].t.kids.length) c_1], rd kTree A_1 c_1 (xs[k].t.kids), rowL kEdge 50 b c xs cur]
      refine WC.condD rfl (fun hc_2 => ?_) (fun hc_2 => ?_)
      ·
        refine WC.exit ?_
        refine WX.pass_exit ?_
        refine WX.block_exit ?_
        refine WX.next ?_
        refine WC.region ?_
        refine WL.quiet (Qt.add rfl rfl (by omega)) rfl rfl ?_
        refine WL.quiet (Qt.move rfl) rfl rfl ?_
        refine WL.nil ?_
        exact WX.back (k + 1) ⟨by omega, ser_none hno (by omega) (by first | exact .inl hc_2 | exact .inr (fun h => hc_2 (ser_eq hcome hleave (by omega) h)))⟩ (by first | omega | (dsimp only; omega) | (simp; omega)) ⟨rfl, rfl, rfl, rfl, rfl, rfl, trivial⟩ (.take 2 rfl (.nil))
      ·
        refine WC.skip ?_
        refine WX.next ?_
        refine WC.seq ?_
        refine WC.region ?_
        refine WL.quiet (Qt.assign rfl) rfl rfl ?_
        refine WL.quiet (Qt.assign rfl) rfl rfl ?_
        refine WL.quiet (Qt.assign rfl) rfl rfl ?_
        refine WL.nil ?_
        refine WX.next ?_
        refine WC.seq ?_
        refine WC.seq ?_
        refine WC.region ?_
        refine WL.quiet (Qt.move rfl) rfl rfl ?_
        refine WL.quiet (Qt.lenS Tryd.underlying46 rfl) rfl rfl ?_
        refine WL.quiet (Qt.move rfl) rfl rfl ?_
        refine WL.nil ?_
        refine WX.next ?_
        refine WC.block ?_
        refine WC.loop (fun w0 : Nat × Nat × Nat × Nat => [(0, .slice (some ⟨b, 0, none⟩) xs.length c), (2, .slice none 0 0), (3, .bool false), (11, .slice (some ⟨b, 0, none⟩) xs.length c), (12, .int .i64 ((xs.length : Nat) : Int)), (13, .int .i64 ((k : Nat) : Int)), (14, .bool (decide (((k : Nat) : Int) < ((xs.length : Nat) : Int)))), (15, .int .i64 ((k : Nat) : Int)), (16, .pointer (some ⟨b, k * 5, none⟩)), (17, .agg [.string (xs[k].frm), .string (xs[k].to), .int .i64 (xs[k].t.kind), .int .i64 (xs[k].t.n), .slice A_1 (xs[k].t.kids.length) c_1].toArray), (5, .pointer (some ⟨b_1, 0, none⟩)), (4, .int .i64 ((k : Nat) : Int)), (18, .pointer (some ⟨b_1, 0, none⟩)), (19, .pointer (some ⟨b_1, 1, none⟩)), (20, .string (xs[k].to)), (21, .bool (decide ((xs[k].to) = (⟨#[76]⟩ : ByteArray)))), (22, .bool (decide ((xs[k].to) = (⟨#[76]⟩ : ByteArray)))), (27, .bool (decide (((xs[k].to) = (⟨#[76]⟩ : ByteArray)) ∨ ((xs[k].to) = (⟨#[82]⟩ : ByteArray))))), (6, .int .i64 ((w0.2.2.2 : Nat) : Int)), (7, .int .i64 ((w0.2.1 : Nat) : Int)), (8, .int .i64 ((w0.2.2.1 : Nat) : Int)), (28, .slice (some ⟨b, 0, none⟩) xs.length c), (29, .int .i64 ((xs.length : Nat) : Int)), (30, .int .i64 ((w0.1 : Nat) : Int))]) (fun w0 => [blk b_1 50 [.string (xs[k].frm), .string (xs[k].to), .int .i64 (xs[k].t.kind), .int .i64 (xs[k].t.n), .slice A_1 (xs[k].t.kids.length) c_1], rd kTree A_1 c_1 (xs[k].t.kids), rowL kEdge 50 b c xs cur]) (fun w0 => w0.1 ≤ xs.length ∧ w0.2.1 ≤ w0.1 ∧ w0.2.2.1 ≤ w0.1 ∧ w0.2.1 = comes xs[k].to (xs.take w0.1) ∧ w0.2.2.1 = leaves xs[k].to (xs.take w0.1) ∧ (0 < w0.2.2.1 → ∃ h : w0.2.2.2 < xs.length, xs[w0.2.2.2].frm = xs[k].to)) (fun w0 => xs.length - w0.1) (0, 0, 0, 0) ⟨Nat.zero_le _, Nat.le_refl _, Nat.le_refl _, by simp [comes], by simp [leaves], fun h => absurd h (Nat.not_lt_zero _)⟩ ⟨rfl, rfl, rfl, rfl, rfl, rfl, rfl, rfl, rfl, rfl, rfl, rfl, rfl, rfl, rfl, rfl, rfl, rfl, rfl, rfl, rfl, rfl, rfl, rfl, trivial⟩ (.take 0 rfl (.use 0 rfl (fun _ h => h) (.take 1 rfl (.nil)))) ?_
        rintro ⟨q, come, leave, on⟩ ⟨hq, hcq, hlq, hcome, hleave, hon⟩
        try dsimp only at hq hcq hlq hcome hleave hon
        show WC _ _ _ _ _ _ [(0, .slice (some ⟨b, 0, none⟩) xs.length c), (2, .slice none 0 0), (3, .bool false), (11, .slice (some ⟨b, 0, none⟩) xs.length c), (12, .int .i64 ((xs.length : Nat) : Int)), (13, .int .i64 ((k : Nat) : Int)), (14, .bool (decide (((k : Nat) : Int) < ((xs.length : Nat) : Int)))), (15, .int .i64 ((k : Nat) : Int)), (16, .pointer (some ⟨b, k * 5, none⟩)), (17, .agg [.string (xs[k].frm), .string (xs[k].to), .int .i64 (xs[k].t.kind), .int .i64 (xs[k].t.n), .slice A_1 (xs[k].t.kids.length) c_1].toArray), (5, .pointer (some ⟨b_1, 0, none⟩)), (4, .int .i64 ((k : Nat) : Int)), (18, .pointer (some ⟨b_1, 0, none⟩)), (19, .pointer (some ⟨b_1, 1, none⟩)), (20, .string (xs[k].to)), (21, .bool (decide ((xs[k].to) = (⟨#[76]⟩ : ByteArray)))), (22, .bool (decide ((xs[k].to) = (⟨#[76]⟩ : ByteArray)))), (27, .bool (decide (((xs[k].to) = (⟨#[76]⟩ : ByteArray)) ∨ ((xs[k].to) = (⟨#[82]⟩ : ByteArray))))), (6, .int .i64 ((on : Nat) : Int)), (7, .int .i64 ((come : Nat) : Int)), (8, .int .i64 ((leave : Nat) : Int)), (28, .slice (some ⟨b, 0, none⟩) xs.length c), (29, .int .i64 ((xs.length : Nat) : Int)), (30, .int .i64 ((q : Nat) : Int))] [blk b_1 50 [.string (xs[k].frm), .string (xs[k].to), .int .i64 (xs[k].t.kind), .int .i64 (xs[k].t.n), .slice A_1 (xs[k].t.kids.length) c_1], rd kTree A_1 c_1 (xs[k].t.kids), rowL kEdge 50 b c xs cur]
        refine WC.seq ?_
        refine WC.region ?_
        refine WL.quiet (Qt.lss rfl rfl) rfl rfl ?_
        refine WL.nil ?_
        refine WX.next ?_
        refine WC.seq ?_
        refine WC.condD rfl (fun hc_3 => ?_) (fun hc_3 => ?_)
        ·
          refine WC.skip ?_
          refine WX.next ?_
          refine WC.seq ?_
          refine WC.block ?_
          refine WC.seq ?_
          refine WC.region ?_
          refine WL.quiet (Qt.move rfl) rfl rfl ?_
          have hj_2 : q < xs.length := by omega
          refine WL.learn 2 rfl (rowL_at q hj_2 (vEdge _)) ?_
          rintro ⟨A_2, c_2⟩ hel_2
          refine WL.quiet (Qt.indexAddrB q Tryd.underlying46 ti50 rfl rfl (by first | assumption | omega)) rfl rfl ?_
          refine WL.quiet (Qt.loadRA (j := q) (o := 0) 3 rfl hel_2 ta50 ti50 rfl rfl) rfl rfl ?_
          refine WL.loud (.nil) (Ld.alloc ti50 rfl) trivial rfl ?_
          rintro _ _ ⟨b_2, rfl, rfl⟩
          refine WL.quiet (Qt.assign rfl) rfl rfl ?_
          refine WL.loud (.take 0 rfl (.nil)) (Ld.store ti50 rfl rfl rfl rfl rfl rfl) trivial rfl ?_
          rintro _ _ rfl
          refine WL.nil ?_
          refine WX.next ?_
          refine WC.seq ?_
          refine WC.seq ?_
          refine WC.region ?_
          refine WL.quiet (Qt.fieldAddrB tf50_0 rfl) rfl rfl ?_
          refine WL.quiet (Qt.fieldAddrB tf48_1 rfl) rfl rfl ?_
          refine WL.quiet (Qt.loadB 0 rfl ta9 rfl rfl) rfl rfl ?_
          refine WL.quiet (Qt.fieldAddrB tf50_0 rfl) rfl rfl ?_
          refine WL.quiet (Qt.fieldAddrB tf48_1 rfl) rfl rfl ?_
          refine WL.quiet (Qt.loadB 2 rfl ta9 rfl rfl) rfl rfl ?_
          refine WL.quiet (Qt.seql rfl rfl) rfl rfl ?_
          refine WL.nil ?_
          refine WX.next ?_
          refine WC.condD rfl (fun hc_4 => ?_) (fun hc_4 => ?_)
          ·
            refine WC.region ?_
            refine WL.quiet (Qt.move rfl) rfl rfl ?_
            refine WL.quiet (Qt.add rfl rfl (by omega)) rfl rfl ?_
            refine WL.quiet (Qt.assign rfl) rfl rfl ?_
            refine WL.nil ?_
            refine WX.next ?_
            refine WC.seq ?_
            refine WC.region ?_
            refine WL.quiet (Qt.fieldAddrB tf50_0 rfl) rfl rfl ?_
            refine WL.quiet (Qt.fieldAddrB tf48_0 rfl) rfl rfl ?_
            refine WL.quiet (Qt.loadB 0 rfl ta9 rfl rfl) rfl rfl ?_
            refine WL.quiet (Qt.fieldAddrB tf50_0 rfl) rfl rfl ?_
            refine WL.quiet (Qt.fieldAddrB tf48_1 rfl) rfl rfl ?_
            refine WL.quiet (Qt.loadB 2 rfl ta9 rfl rfl) rfl rfl ?_
            refine WL.quiet (Qt.seql rfl rfl) rfl rfl ?_
            refine WL.nil ?_
            refine WX.next ?_
            refine WC.condD rfl (fun hc_5 => ?_) (fun hc_5 => ?_)
            ·
              refine WC.seq ?_
              refine WC.region ?_
              refine WL.quiet (Qt.move rfl) rfl rfl ?_
              refine WL.quiet (Qt.add rfl rfl (by omega)) rfl rfl ?_
              refine WL.quiet (Qt.assign rfl) rfl rfl ?_
              refine WL.nil ?_
              refine WX.next ?_
              refine WC.region ?_
              refine WL.quiet (Qt.move rfl) rfl rfl ?_
              refine WL.quiet (Qt.assign rfl) rfl rfl ?_
              refine WL.nil ?_
              refine WX.block_end ?_
              refine WX.next ?_
              refine WC.region ?_
              refine WL.quiet (Qt.add rfl rfl (by omega)) rfl rfl ?_
              refine WL.quiet (Qt.move rfl) rfl rfl ?_
              refine WL.nil ?_
              exact WX.back (q + 1, come + 1, leave + 1, q) ⟨by omega, by dsimp only; omega, by dsimp only; omega, comes_step hcome (by omega) (by first | exact .inl ⟨hc_4, rfl⟩ | exact .inr ⟨hc_4, rfl⟩), leaves_step hleave (by omega) (by first | exact .inl ⟨hc_5, rfl⟩ | exact .inr ⟨hc_5, rfl⟩), by first | exact fun _ => ⟨by omega, hc_5⟩ | exact hon⟩ (by dsimp only; omega) ⟨rfl, rfl, rfl, rfl, rfl, rfl, rfl, rfl, rfl, rfl, rfl, rfl, rfl, rfl, rfl, rfl, rfl, rfl, rfl, rfl, rfl, rfl, rfl, rfl, trivial⟩ (.take 2 rfl (.use 2 rfl (fun _ h => h) (.take 3 rfl (.nil))))
            ·
              refine WC.skip ?_
              refine WX.block_end ?_
              refine WX.next ?_
              refine WC.region ?_
              refine WL.quiet (Qt.add rfl rfl (by omega)) rfl rfl ?_
              refine WL.quiet (Qt.move rfl) rfl rfl ?_
              refine WL.nil ?_
              exact WX.back (q + 1, come + 1, leave, on) ⟨by omega, by dsimp only; omega, by dsimp only; omega, comes_step hcome (by omega) (by first | exact .inl ⟨hc_4, rfl⟩ | exact .inr ⟨hc_4, rfl⟩), leaves_step hleave (by omega) (by first | exact .inl ⟨hc_5, rfl⟩ | exact .inr ⟨hc_5, rfl⟩), by first | exact fun _ => ⟨by omega, hc_5⟩ | exact hon⟩ (by dsimp only; omega) ⟨rfl, rfl, rfl, rfl, rfl, rfl, rfl, rfl, rfl, rfl, rfl, rfl, rfl, rfl, rfl, rfl, rfl, rfl, rfl, rfl, rfl, rfl, rfl, rfl, trivial⟩ (.take 2 rfl (.use 2 rfl (fun _ h => h) (.take 3 rfl (.nil))))
          ·
            refine WC.skip ?_
            refine WX.next ?_
            refine WC.seq ?_
            refine WC.region ?_
            refine WL.quiet (Qt.fieldAddrB tf50_0 rfl) rfl rfl ?_
            refine WL.quiet (Qt.fieldAddrB tf48_0 rfl) rfl rfl ?_
            refine WL.quiet (Qt.loadB 0 rfl ta9 rfl rfl) rfl rfl ?_
            refine WL.quiet (Qt.fieldAddrB tf50_0 rfl) rfl rfl ?_
            refine WL.quiet (Qt.fieldAddrB tf48_1 rfl) rfl rfl ?_
            refine WL.quiet (Qt.loadB 2 rfl ta9 rfl rfl) rfl rfl ?_
            refine WL.quiet (Qt.seql rfl rfl) rfl rfl ?_
            refine WL.nil ?_
            refine WX.next ?_
            refine WC.condD rfl (fun hc_6 => ?_) (fun hc_6 => ?_)
            ·
              refine WC.seq ?_
              refine WC.region ?_
              refine WL.quiet (Qt.move rfl) rfl rfl ?_
              refine WL.quiet (Qt.add rfl rfl (by omega)) rfl rfl ?_
              refine WL.quiet (Qt.assign rfl) rfl rfl ?_
              refine WL.nil ?_
              refine WX.next ?_
              refine WC.region ?_
              refine WL.quiet (Qt.move rfl) rfl rfl ?_
              refine WL.quiet (Qt.assign rfl) rfl rfl ?_
              refine WL.nil ?_
              refine WX.block_end ?_
              refine WX.next ?_
              refine WC.region ?_
              refine WL.quiet (Qt.add rfl rfl (by omega)) rfl rfl ?_
              refine WL.quiet (Qt.move rfl) rfl rfl ?_
              refine WL.nil ?_
              exact WX.back (q + 1, come, leave + 1, q) ⟨by omega, by dsimp only; omega, by dsimp only; omega, comes_step hcome (by omega) (by first | exact .inl ⟨hc_4, rfl⟩ | exact .inr ⟨hc_4, rfl⟩), leaves_step hleave (by omega) (by first | exact .inl ⟨hc_6, rfl⟩ | exact .inr ⟨hc_6, rfl⟩), by first | exact fun _ => ⟨by omega, hc_6⟩ | exact hon⟩ (by dsimp only; omega) ⟨rfl, rfl, rfl, rfl, rfl, rfl, rfl, rfl, rfl, rfl, rfl, rfl, rfl, rfl, rfl, rfl, rfl, rfl, rfl, rfl, rfl, rfl, rfl, rfl, trivial⟩ (.take 2 rfl (.use 2 rfl (fun _ h => h) (.take 3 rfl (.nil))))
            ·
              refine WC.skip ?_
              refine WX.block_end ?_
              refine WX.next ?_
              refine WC.region ?_
              refine WL.quiet (Qt.add rfl rfl (by omega)) rfl rfl ?_
              refine WL.quiet (Qt.move rfl) rfl rfl ?_
              refine WL.nil ?_
              exact WX.back (q + 1, come, leave, on) ⟨by omega, by dsimp only; omega, by dsimp only; omega, comes_step hcome (by omega) (by first | exact .inl ⟨hc_4, rfl⟩ | exact .inr ⟨hc_4, rfl⟩), leaves_step hleave (by omega) (by first | exact .inl ⟨hc_6, rfl⟩ | exact .inr ⟨hc_6, rfl⟩), by first | exact fun _ => ⟨by omega, hc_6⟩ | exact hon⟩ (by dsimp only; omega) ⟨rfl, rfl, rfl, rfl, rfl, rfl, rfl, rfl, rfl, rfl, rfl, rfl, rfl, rfl, rfl, rfl, rfl, rfl, rfl, rfl, rfl, rfl, rfl, rfl, trivial⟩ (.take 2 rfl (.use 2 rfl (fun _ h => h) (.take 3 rfl (.nil))))
        ·
          refine WC.exit ?_
          refine WX.pass_exit ?_
          refine WX.pass_exit ?_
          refine WX.block_exit ?_
          refine WX.next ?_
          refine WC.cut (fun _ : Unit => [(0, .slice (some ⟨b, 0, none⟩) xs.length c), (2, .slice none 0 0), (3, .bool false), (11, .slice (some ⟨b, 0, none⟩) xs.length c), (12, .int .i64 ((xs.length : Nat) : Int)), (13, .int .i64 ((k : Nat) : Int)), (14, .bool (decide (((k : Nat) : Int) < ((xs.length : Nat) : Int)))), (15, .int .i64 ((k : Nat) : Int)), (16, .pointer (some ⟨b, k * 5, none⟩)), (17, .agg [.string (xs[k].frm), .string (xs[k].to), .int .i64 (xs[k].t.kind), .int .i64 (xs[k].t.n), .slice A_1 (xs[k].t.kids.length) c_1].toArray), (5, .pointer (some ⟨b_1, 0, none⟩)), (4, .int .i64 ((k : Nat) : Int)), (18, .pointer (some ⟨b_1, 0, none⟩)), (19, .pointer (some ⟨b_1, 1, none⟩)), (20, .string (xs[k].to)), (21, .bool (decide ((xs[k].to) = (⟨#[76]⟩ : ByteArray)))), (22, .bool (decide ((xs[k].to) = (⟨#[76]⟩ : ByteArray)))), (27, .bool (decide (((xs[k].to) = (⟨#[76]⟩ : ByteArray)) ∨ ((xs[k].to) = (⟨#[82]⟩ : ByteArray))))), (6, .int .i64 ((on : Nat) : Int)), (7, .int .i64 ((come : Nat) : Int)), (8, .int .i64 ((leave : Nat) : Int)), (28, .slice (some ⟨b, 0, none⟩) xs.length c), (29, .int .i64 ((xs.length : Nat) : Int)), (30, .int .i64 ((q : Nat) : Int)), (31, .bool (decide (((q : Nat) : Int) < ((xs.length : Nat) : Int)))), (55, .int .i64 ((come : Nat) : Int)), (56, .bool (decide (((come : Nat) : Int) = 1))), (57, .bool (decide (((come : Nat) : Int) = 1))), (60, .bool (decide ((((come : Nat) : Int) = 1) ∧ (((leave : Nat) : Int) = 1))))]) (fun _ => [blk b_1 50 [.string (xs[k].frm), .string (xs[k].to), .int .i64 (xs[k].t.kind), .int .i64 (xs[k].t.n), .slice A_1 (xs[k].t.kids.length) c_1], rd kTree A_1 c_1 (xs[k].t.kids), rowL kEdge 50 b c xs cur]) (fun _ => True) ?_ ?_
          ·
            refine WC.region ?_
            refine WL.quiet (Qt.move rfl) rfl rfl ?_
            refine WL.quiet (Qt.eql rfl rfl) rfl rfl ?_
            refine WL.quiet (Qt.move rfl) rfl rfl ?_
            refine WL.splitD 57 rfl rfl (fun hg_2 => ?_) (fun hg_2 => ?_)
            ·
              refine WL.quietG 2 true rfl 57 rfl rfl (Qt.move rfl) rfl ?_
              refine WL.quietG 2 true rfl 57 rfl rfl (Qt.eql rfl rfl) rfl ?_
              refine WL.quiet (Qt.pickT rfl rfl) rfl rfl ?_
              refine WL.nil ?_
              exact WX.cut () trivial ⟨rfl, rfl, rfl, rfl, rfl, rfl, rfl, rfl, rfl, rfl, rfl, rfl, rfl, rfl, rfl, rfl, rfl, rfl, rfl, rfl, rfl, rfl, rfl, rfl, rfl, rfl, rfl, (by rw [show decide (((come : Nat) : Int) = 1) = true from by first | (simp [hg_2]; done) | exact decide_eq_decide.2 (by omega) | exact decide_eq_true (by omega) | exact decide_eq_false (by omega) | (simp [hg_2] <;> omega)]; rfl), (by rw [show decide ((((come : Nat) : Int) = 1) ∧ (((leave : Nat) : Int) = 1)) = (decide (((leave : Nat) : Int) = 1)) from by first | (simp [hg_2]; done) | exact decide_eq_decide.2 (by omega) | exact decide_eq_true (by omega) | exact decide_eq_false (by omega) | (simp [hg_2] <;> omega)]; rfl), trivial⟩ (.take 0 rfl (.use 0 rfl (fun _ h => h) (.take 1 rfl (.nil))))
            ·
              refine WL.skipG 2 true false rfl 57 rfl rfl rfl rfl ?_
              refine WL.skipG 2 true false rfl 57 rfl rfl rfl rfl ?_
              refine WL.quiet (Qt.pickF rfl rfl) rfl rfl ?_
              refine WL.nil ?_
              exact WX.cut () trivial ⟨rfl, rfl, rfl, rfl, rfl, rfl, rfl, rfl, rfl, rfl, rfl, rfl, rfl, rfl, rfl, rfl, rfl, rfl, rfl, rfl, rfl, rfl, rfl, rfl, rfl, rfl, rfl, (by rw [show decide (((come : Nat) : Int) = 1) = false from by first | (simp [hg_2]; done) | exact decide_eq_decide.2 (by omega) | exact decide_eq_true (by omega) | exact decide_eq_false (by omega) | (simp [hg_2] <;> omega)]; rfl), (by rw [show decide ((((come : Nat) : Int) = 1) ∧ (((leave : Nat) : Int) = 1)) = false from by first | (simp [hg_2]; done) | exact decide_eq_decide.2 (by omega) | exact decide_eq_true (by omega) | exact decide_eq_false (by omega) | (simp [hg_2] <;> omega)]; rfl), trivial⟩ (.take 0 rfl (.use 0 rfl (fun _ h => h) (.take 1 rfl (.nil))))
          ·
            intro _ _
            show WC _ _ _ _ _ _ [(0, .slice (some ⟨b, 0, none⟩) xs.length c), (2, .slice none 0 0), (3, .bool false), (11, .slice (some ⟨b, 0, none⟩) xs.length c), (12, .int .i64 ((xs.length : Nat) : Int)), (13, .int .i64 ((k : Nat) : Int)), (14, .bool (decide (((k : Nat) : Int) < ((xs.length : Nat) : Int)))), (15, .int .i64 ((k : Nat) : Int)), (16, .pointer (some ⟨b, k * 5, none⟩)), (17, .agg [.string (xs[k].frm), .string (xs[k].to), .int .i64 (xs[k].t.kind), .int .i64 (xs[k].t.n), .slice A_1 (xs[k].t.kids.length) c_1].toArray), (5, .pointer (some ⟨b_1, 0, none⟩)), (4, .int .i64 ((k : Nat) : Int)), (18, .pointer (some ⟨b_1, 0, none⟩)), (19, .pointer (some ⟨b_1, 1, none⟩)), (20, .string (xs[k].to)), (21, .bool (decide ((xs[k].to) = (⟨#[76]⟩ : ByteArray)))), (22, .bool (decide ((xs[k].to) = (⟨#[76]⟩ : ByteArray)))), (27, .bool (decide (((xs[k].to) = (⟨#[76]⟩ : ByteArray)) ∨ ((xs[k].to) = (⟨#[82]⟩ : ByteArray))))), (6, .int .i64 ((on : Nat) : Int)), (7, .int .i64 ((come : Nat) : Int)), (8, .int .i64 ((leave : Nat) : Int)), (28, .slice (some ⟨b, 0, none⟩) xs.length c), (29, .int .i64 ((xs.length : Nat) : Int)), (30, .int .i64 ((q : Nat) : Int)), (31, .bool (decide (((q : Nat) : Int) < ((xs.length : Nat) : Int)))), (55, .int .i64 ((come : Nat) : Int)), (56, .bool (decide (((come : Nat) : Int) = 1))), (57, .bool (decide (((come : Nat) : Int) = 1))), (60, .bool (decide ((((come : Nat) : Int) = 1) ∧ (((leave : Nat) : Int) = 1))))] [blk b_1 50 [.string (xs[k].frm), .string (xs[k].to), .int .i64 (xs[k].t.kind), .int .i64 (xs[k].t.n), .slice A_1 (xs[k].t.kids.length) c_1], rd kTree A_1 c_1 (xs[k].t.kids), rowL kEdge 50 b c xs cur]
            refine WC.condD rfl (fun hc_7 => ?_) (fun hc_7 => ?_)
            ·
              refine WC.seq ?_
              obtain ⟨hlon, hfrm⟩ := hon (by omega)
              have hn1 := nodesE_get xs k (by omega)
              have hn2 := nodesE_get xs on hlon
              have hcl := ser_eq2 hcome hleave (by omega) hc_7
              have hj_3 : on < xs.length := by omega
              refine WC.learn 2 rfl (rowL_at on hj_3 (vEdge _)) ?_
              rintro ⟨A_3, c_3⟩ hel_3
              refine WC.draw (Γq := [rd kTree A_3 c_3 (xs[on].t.kids), blk b_1 50 [.string (xs[k].frm), .string (xs[k].to), .int .i64 (xs[k].t.kind), .int .i64 (xs[k].t.n), .slice A_1 (xs[k].t.kids.length) c_1], rd kTree A_1 c_1 (xs[k].t.kids), rowL kEdge 50 b c xs cur]) [0, 1, 2, 3, 4, 5, 6, 7, 8, 9, 10, 11, 12, 13, 14, 15, 16, 17, 18, 19, 20] mixed ?_
              refine WA.take (by kernel_rfl) 0 (by decide) rfl (by kernel_rfl) (by kernel_rfl) (by kernel_rfl) (Calm.then (Calm.inBlock (Calm.then (Calm.then (Calm.inBlock (Calm.then (calm_FQ _ _))))))) (Qt.move rfl) trivial rfl (.use 0 rfl (fun _ h => h) (.take 1 rfl (.use 1 rfl (fun _ h => h) (.take 2 rfl (.nil))))) ?_
              refine WA.take (by kernel_rfl) 1 (by decide) rfl (by kernel_rfl) (by kernel_rfl) (by kernel_rfl) (Calm.then (Calm.inBlock (Calm.then (Calm.then (Calm.inBlock (Calm.then (calm_FQ _ _))))))) (Qt.move rfl) trivial rfl (.use 0 rfl (fun _ h => h) (.take 1 rfl (.use 1 rfl (fun _ h => h) (.take 2 rfl (.nil))))) ?_
              refine WA.take (by kernel_rfl) 2 (by decide) rfl (by kernel_rfl) (by kernel_rfl) (by kernel_rfl) (Calm.then (Calm.inBlock (Calm.then (Calm.then (Calm.inBlock (Calm.then (calm_FQ _ _))))))) (Qt.fieldAddrB tf50_0 rfl) trivial rfl (.use 0 rfl (fun _ h => h) (.take 1 rfl (.use 1 rfl (fun _ h => h) (.take 2 rfl (.nil))))) ?_
              refine WA.take (by kernel_rfl) 3 (by decide) rfl (by kernel_rfl) (by kernel_rfl) (by kernel_rfl) (Calm.then (Calm.inBlock (Calm.then (Calm.then (Calm.inBlock (Calm.then (calm_FQ _ _))))))) (Qt.fieldAddrB tf48_0 rfl) trivial rfl (.use 0 rfl (fun _ h => h) (.take 1 rfl (.use 1 rfl (fun _ h => h) (.take 2 rfl (.nil))))) ?_
              refine WA.take (by kernel_rfl) 4 (by decide) rfl (by kernel_rfl) (by kernel_rfl) (by kernel_rfl) (Calm.then (Calm.inBlock (Calm.then (Calm.then (Calm.inBlock (Calm.then (calm_FQ _ _))))))) (Qt.loadB 1 rfl ta9 rfl rfl) trivial rfl (.use 0 rfl (fun _ h => h) (.take 1 rfl (.use 1 rfl (fun _ h => h) (.take 2 rfl (.nil))))) ?_
              refine WA.take (by kernel_rfl) 5 (by decide) rfl (by kernel_rfl) (by kernel_rfl) (by kernel_rfl) (Calm.then (Calm.inBlock (Calm.then (Calm.then (Calm.inBlock (Calm.then (calm_FQ _ _))))))) (Qt.move rfl) trivial rfl (.use 0 rfl (fun _ h => h) (.take 1 rfl (.use 1 rfl (fun _ h => h) (.take 2 rfl (.nil))))) ?_
              refine WA.take (by kernel_rfl) 6 (by decide) rfl (by kernel_rfl) (by kernel_rfl) (by kernel_rfl) (Calm.then (Calm.inBlock (Calm.then (Calm.then (Calm.inBlock (Calm.then (calm_FQ _ _))))))) (Qt.move rfl) trivial rfl (.use 0 rfl (fun _ h => h) (.take 1 rfl (.use 1 rfl (fun _ h => h) (.take 2 rfl (.nil))))) ?_
              refine WA.take (by kernel_rfl) 7 (by decide) rfl (by kernel_rfl) (by kernel_rfl) (by kernel_rfl) (Calm.then (Calm.inBlock (Calm.then (Calm.then (Calm.inBlock (Calm.then (calm_FQ _ _))))))) (Qt.indexAddrB on Tryd.underlying46 ti50 rfl rfl (by first | assumption | omega)) trivial rfl (.use 0 rfl (fun _ h => h) (.take 1 rfl (.use 1 rfl (fun _ h => h) (.take 2 rfl (.nil))))) ?_
              refine WA.take (by kernel_rfl) 8 (by decide) rfl (by kernel_rfl) (by kernel_rfl) (by kernel_rfl) (Calm.then (Calm.inBlock (Calm.then (Calm.then (Calm.inBlock (Calm.then (calm_FQ _ _))))))) (Qt.fieldAddrB tf50_0 rfl) trivial rfl (.use 0 rfl (fun _ h => h) (.take 1 rfl (.use 1 rfl (fun _ h => h) (.take 2 rfl (.nil))))) ?_
              refine WA.take (by kernel_rfl) 9 (by decide) rfl (by kernel_rfl) (by kernel_rfl) (by kernel_rfl) (Calm.then (Calm.inBlock (Calm.then (Calm.then (Calm.inBlock (Calm.then (calm_FQ _ _))))))) (Qt.fieldAddrB tf48_1 rfl) trivial rfl (.use 0 rfl (fun _ h => h) (.take 1 rfl (.use 1 rfl (fun _ h => h) (.take 2 rfl (.nil))))) ?_
              refine WA.take (by kernel_rfl) 10 (by decide) rfl (by kernel_rfl) (by kernel_rfl) (by kernel_rfl) (Calm.then (Calm.inBlock (Calm.then (Calm.then (Calm.inBlock (Calm.then (calm_FQ _ _))))))) (Qt.loadR (j := on) (o := 1) 3 rfl hel_3 ta9 rfl rfl) trivial rfl (.use 0 rfl (fun _ h => h) (.take 1 rfl (.use 1 rfl (fun _ h => h) (.take 2 rfl (.nil))))) ?_
              refine WA.take (by kernel_rfl) 11 (by decide) rfl (by kernel_rfl) (by kernel_rfl) (by kernel_rfl) (Calm.then (Calm.inBlock (Calm.then (Calm.then (Calm.inBlock (Calm.then (calm_FQ _ _))))))) (Qt.build tp48 ti48 rfl rfl rfl) trivial rfl (.use 0 rfl (fun _ h => h) (.take 1 rfl (.use 1 rfl (fun _ h => h) (.take 2 rfl (.nil))))) ?_
              refine WA.take (by kernel_rfl) 12 (by decide) rfl (by kernel_rfl) (by kernel_rfl) (by kernel_rfl) (Calm.then (Calm.inBlock (Calm.then (Calm.then (Calm.inBlock (Calm.then (calm_FQ _ _))))))) (Qt.fieldAddrB tf50_1 rfl) trivial rfl (.use 0 rfl (fun _ h => h) (.take 1 rfl (.use 1 rfl (fun _ h => h) (.take 2 rfl (.nil))))) ?_
              refine WA.take (by kernel_rfl) 13 (by decide) rfl (by kernel_rfl) (by kernel_rfl) (by kernel_rfl) (Calm.then (Calm.inBlock (Calm.then (Calm.then (Calm.inBlock (Calm.then (calm_FQ _ _))))))) (Qt.loadBA 1 rfl ta30 ti30 rfl rfl) trivial rfl (.use 0 rfl (fun _ h => h) (.take 1 rfl (.use 1 rfl (fun _ h => h) (.take 2 rfl (.nil))))) ?_
              refine WA.take (by kernel_rfl) 14 (by decide) rfl (by kernel_rfl) (by kernel_rfl) (by kernel_rfl) (Calm.then (Calm.inBlock (Calm.then (Calm.then (Calm.inBlock (Calm.then (calm_FQ _ _))))))) (Qt.move rfl) trivial rfl (.use 0 rfl (fun _ h => h) (.take 1 rfl (.use 1 rfl (fun _ h => h) (.take 2 rfl (.nil))))) ?_
              refine WA.take (by kernel_rfl) 15 (by decide) rfl (by kernel_rfl) (by kernel_rfl) (by kernel_rfl) (Calm.then (Calm.inBlock (Calm.then (Calm.then (Calm.inBlock (Calm.then (calm_FQ _ _))))))) (Qt.move rfl) trivial rfl (.use 0 rfl (fun _ h => h) (.take 1 rfl (.use 1 rfl (fun _ h => h) (.take 2 rfl (.nil))))) ?_
              refine WA.take (by kernel_rfl) 16 (by decide) rfl (by kernel_rfl) (by kernel_rfl) (by kernel_rfl) (Calm.then (Calm.inBlock (Calm.then (Calm.then (Calm.inBlock (Calm.then (calm_FQ _ _))))))) (Qt.indexAddrB on Tryd.underlying46 ti50 rfl rfl (by first | assumption | omega)) trivial rfl (.use 0 rfl (fun _ h => h) (.take 1 rfl (.use 1 rfl (fun _ h => h) (.take 2 rfl (.nil))))) ?_
              refine WA.take (by kernel_rfl) 17 (by decide) rfl (by kernel_rfl) (by kernel_rfl) (by kernel_rfl) (Calm.then (Calm.inBlock (Calm.then (Calm.then (Calm.inBlock (Calm.then (calm_FQ _ _))))))) (Qt.fieldAddrB tf50_1 rfl) trivial rfl (.use 0 rfl (fun _ h => h) (.take 1 rfl (.use 1 rfl (fun _ h => h) (.take 2 rfl (.nil))))) ?_
              refine WA.take (by kernel_rfl) 18 (by decide) rfl (by kernel_rfl) (by kernel_rfl) (by kernel_rfl) (Calm.then (Calm.inBlock (Calm.then (Calm.then (Calm.inBlock (Calm.then (calm_FQ _ _))))))) (Qt.loadRA (j := on) (o := 2) 3 rfl hel_3 ta30 ti30 rfl rfl) trivial rfl (.use 0 rfl (fun _ h => h) (.take 1 rfl (.use 1 rfl (fun _ h => h) (.take 2 rfl (.nil))))) ?_
              refine WA.one 19 (by kernel_rfl) ?_
              refine WO.call rfl (.use 2 rfl (fun _ h => h) (.use 0 rfl (fun _ h => h) (.nil))) (Cl.func cb26 rfl) (joinW 1 (xs[k].t) (xs[on].t) _ _ _ _ (by omega)) trivial rfl (by rintro _ _ ⟨A_4, c_4, rfl, rfl⟩; exact ⟨_, (.use 1 rfl (fun _ h => h) (.take 2 rfl (.use 2 rfl (fun _ h => h) (.take 3 rfl (.nil)))))⟩) ?_
              rintro _ _ ⟨A_4, c_4, rfl, rfl⟩
              refine WA.take (by kernel_rfl) 20 (by decide) rfl (by kernel_rfl) (by kernel_rfl) (by kernel_rfl) (Calm.then (Calm.inBlock (Calm.then (Calm.then (Calm.inBlock (Calm.then (calm_FQ _ _))))))) (Qt.build tp50 ti50 rfl rfl rfl) trivial rfl (.use 1 rfl (fun _ h => h) (.take 2 rfl (.use 2 rfl (fun _ h => h) (.take 3 rfl (.nil))))) ?_
              refine WA.phase (K' := [0, 1, 2, 3, 4, 5, 6, 7, 8, 9, 10, 11, 12, 13, 14, 15, 16, 17, 18, 19, 20, 21]) (Γq' := [rd kTree A_4 c_4 ((joinT 1 (xs[k].t) (xs[on].t)).kids), rd kTree A_3 c_3 (xs[on].t.kids), blk b_1 50 [.string (xs[k].frm), .string (xs[k].to), .int .i64 (xs[k].t.kind), .int .i64 (xs[k].t.n), .slice A_1 (xs[k].t.kids.length) c_1], rd kTree A_1 c_1 (xs[k].t.kids), rowL kEdge 50 b c xs cur]) (by kernel_rfl) ?_
              refine WA.take (by kernel_rfl) 21 (by decide) rfl (by kernel_rfl) (by kernel_rfl) (by kernel_rfl) (Calm.then (Calm.inBlock (Calm.then (Calm.then (Calm.inBlock (Calm.then (calm_FQ _ _))))))) (Qt.indexAddrB k Tryd.underlying46 ti50 rfl rfl (by first | assumption | omega)) trivial rfl (.use 0 rfl (fun _ h => h) (.use 1 rfl (fun _ h => h) (.take 2 rfl (.use 2 rfl (fun _ h => h) (.take 3 rfl (.nil)))))) ?_
              refine WA.phase (K' := [0, 1, 2, 3, 4, 5, 6, 7, 8, 9, 10, 11, 12, 13, 14, 15, 16, 17, 18, 19, 20, 21, 22]) (Γq' := [rd kTree A_4 c_4 ((joinT 1 (xs[k].t) (xs[on].t)).kids), rd kTree A_3 c_3 (xs[on].t.kids), blk b_1 50 [.string (xs[k].frm), .string (xs[k].to), .int .i64 (xs[k].t.kind), .int .i64 (xs[k].t.n), .slice A_1 (xs[k].t.kids.length) c_1], rd kTree A_1 c_1 (xs[k].t.kids)]) (by kernel_rfl) ?_
              refine WA.one 22 (by kernel_rfl) ?_
              refine WO.loud rfl (.take 4 rfl (.use 0 rfl (fun _ h => h) (.nil))) (Ld.storeR (j := k) (o := 0) ⟨xs[k].frm, xs[on].to, (joinT 1 (xs[k].t) (xs[on].t))⟩ (by first | assumption | omega | (simp; omega)) hel_1 ti50 rfl rfl rfl rfl rfl rfl (fun S w h => mkEdgeE (h _ (by simp)))) trivial rfl (by rintro _ _ ⟨cur_1, hel_4, hoth_1, rfl⟩; exact ⟨_, (.use 1 rfl (fun _ h => h) (.use 2 rfl (fun _ h => h) (.take 3 rfl (.use 3 rfl (fun _ h => h) (.nil)))))⟩) ?_
              rintro _ _ ⟨cur_1, hel_4, hoth_1, rfl⟩
              refine WA.done (by kernel_rfl) ?_
              refine WX.next ?_
              refine WC.seq ?_
              refine WC.region ?_
              refine WL.quiet (Qt.move rfl) rfl rfl ?_
              refine WL.quiet (Qt.move rfl) rfl rfl ?_
              refine WL.quiet (Qt.move rfl) rfl rfl ?_
              refine WL.quiet (Qt.add rfl rfl (by omega)) rfl rfl ?_
              refine WL.call (.take 0 rfl (.nil)) (Cl.func cb27 rfl) (deleteEdgeW' (xs.set k ⟨xs[k].frm, xs[on].to, (joinT 1 (xs[k].t) (xs[on].t))⟩) _ _ on (on + 1) _ _ (List.length_set ..) (by omega) (by rw [List.length_set]; omega)) trivial rfl ?_
              rintro _ _ ⟨cur_2, rfl, rfl⟩
              refine WL.quiet (Qt.assign rfl) rfl rfl ?_
              refine WL.quiet (Qt.assign rfl) rfl rfl ?_
              refine WL.nil ?_
              refine WX.next ?_
              refine WC.ret ?_
              refine WX.block_ret ?_
              refine WX.pass_ret ?_
              refine WX.pass_ret ?_
              refine WX.block_ret ?_
              refine WX.pass_ret ?_
              refine WX.ret2 (.take 0 rfl (.nil)) rfl rfl rfl ?_
              exact ⟨_, _, true, rfl, rfl, .inr ⟨rfl, k, on, by omega, hlon, fun h => hc_2 (.inl h), fun h => hc_2 (.inr h), hcl.1, hcl.2, hfrm, rfl⟩⟩
            ·
              refine WC.skip ?_
              refine WX.block_end ?_
              refine WX.next ?_
              refine WC.region ?_
              refine WL.quiet (Qt.add rfl rfl (by omega)) rfl rfl ?_
              refine WL.quiet (Qt.move rfl) rfl rfl ?_
              refine WL.nil ?_
              exact WX.back (k + 1) ⟨by omega, ser_none hno (by omega) (by first | exact .inl hc_2 | exact .inr (fun h => hc_7 (ser_eq hcome hleave (by omega) h)))⟩ (by first | omega | (dsimp only; omega) | (simp; omega)) ⟨rfl, rfl, rfl, rfl, rfl, rfl, trivial⟩ (.take 2 rfl (.nil))
  ·
    refine WC.exit ?_
    refine WX.pass_exit ?_
    refine WX.pass_exit ?_
    refine WX.block_exit ?_
    refine WX.next ?_
    refine WC.seq ?_
    refine WC.region ?_
    refine WL.quiet (Qt.move rfl) rfl rfl ?_
    refine WL.quiet (Qt.assign rfl) rfl rfl ?_
    refine WL.quiet (Qt.assign rfl) rfl rfl ?_
    refine WL.nil ?_
    refine WX.next ?_
    refine WC.ret ?_
    refine WX.ret2 (.take 0 rfl (.nil)) rfl rfl rfl ?_
    exact ⟨_, _, false, rfl, rfl, .inl ⟨rfl, rfl, fun i hi => hno i hi (by omega)⟩⟩

end Go.Proofs.YtkhmbhdlfpalkaaDoor.Sep

/- A walk, printed by gen.py out of hints. -/
namespace Go.Proofs.YtkhmbhdlfpalkaaDoor.Sep
open Go
variable {μ : Prop}
theorem leavesW_ih (m : Nat) : ∀ (t : PT) (A : Option Addr) (c : Nat), SizeOf.sizeOf t < m → (t.leaves.length ≤ 1000000) → Spec μ Tryd.prog 32 #[.agg [.int .i64 t.kind, .int .i64 t.n, .slice A t.kids.length c].toArray] [rd kTree A c t.kids] fun v Δ => ∃ A1 c1, v = .slice A1 t.leaves.length c1 ∧ Δ = [row kInt 3 A1 c1 t.leaves] := by
  induction m with
  | zero => exact fun t A c h => absurd h (Nat.not_lt_zero _)
  | succ m ih =>
  intro t A c hsz hlen
  refine Spec.of_body (n := 29) Tryd.func32 rfl rfl rfl fun w0 S0 O0 => ?_
  show WC _ _ _ _ _ _ [(0, .agg [.int .i64 t.kind, .int .i64 t.n, .slice A t.kids.length c].toArray)] [rd kTree A c t.kids]
  refine WC.learn (Z := Unit) (Δ := fun _ => []) (φ := fun _ => t.kids.length ≤ c ∧ c ≤ 9223372036854775807) 0 rfl (fun S w h => ⟨(), rd_bounds h, nofacts⟩) ?_
  rintro _ ⟨hb_1, hb_2⟩
  refine WC.seq ?_
  refine WC.region ?_
  refine WL.loud (.nil) (Ld.box rfl rfl) trivial rfl ?_
  rintro _ _ ⟨b_1, rfl, rfl⟩
  refine WL.quiet (Qt.assign rfl) rfl rfl ?_
  refine WL.nil ?_
  refine WX.next ?_
  refine WC.seq ?_
  refine WC.seq ?_
  refine WC.region ?_
  refine WL.quiet (Qt.fieldAddrB tf30_0 rfl) rfl rfl ?_
  refine WL.quiet (Qt.loadB 0 rfl ta3 rfl rfl) rfl rfl ?_
  refine WL.nil ?_
  refine WX.next ?_
  refine WC.block ?_
  refine WC.seq ?_
  refine WC.region ?_
  refine WL.quiet (Qt.eql rfl rfl) rfl rfl ?_
  refine WL.quiet (Qt.assign rfl) rfl rfl ?_
  refine WL.nil ?_
  refine WX.next ?_
  refine WC.condD rfl (fun hc_1 => ?_) (fun hc_1 => ?_)
  ·
    refine WC.seq ?_
    refine WC.region ?_
    refine WL.quiet (Qt.fieldAddrB tf30_1 rfl) rfl rfl ?_
    refine WL.quiet (Qt.loadB 0 rfl ta3 rfl rfl) rfl rfl ?_
    refine WL.loud (.nil) (Ld.buildSlice (zs := [.int .i64 0]) Tryd.underlying74 ti3 rfl rfl (by kernel_rfl) rfl rfl) trivial rfl ?_
    rintro _ _ ⟨b_2, rfl, rfl⟩
    refine WL.quiet (Qt.assign rfl) rfl rfl ?_
    refine WL.nil ?_
    refine WX.next ?_
    refine WC.ret ?_
    refine WX.block_ret ?_
    refine WX.pass_ret ?_
    have hl0 := leaves_leaf t (by omega)
    refine WX.turn (.take 0 rfl (.nil)) (blk_row (e := kInt) (U := []) [t.n] (fun F hF => nomatch hF) (fun S w h => Reps.one rfl) (by simp)) ?_
    rintro _ rfl
    refine WX.ret1 (.take 0 rfl (.nil)) rfl rfl ?_
    exact ⟨_, _, by rw [hl0] <;> rfl, by rw [hl0] <;> rfl⟩
  ·
    refine WC.seq ?_
    refine WC.seq ?_
    refine WC.region ?_
    refine WL.quiet (Qt.eql rfl rfl) rfl rfl ?_
    refine WL.quiet (Qt.assign rfl) rfl rfl ?_
    refine WL.nil ?_
    refine WX.next ?_
    refine WC.condD rfl (fun hc_2 => ?_) (fun hc_2 => ?_)
    ·
      refine WC.skip ?_
      refine WX.next ?_
      refine WC.condD rfl (fun hc_3 => ?_) (fun hc_3 => ?_)
      ·
        refine WC.seq ?_
        have hL : t.leaves = leavesL t.kids := leaves_kids t (by omega)
        refine WC.region ?_
        refine WL.quiet (Qt.assign rfl) rfl rfl ?_
        refine WL.nil ?_
        refine WX.next ?_
        refine WC.seq ?_
        refine WC.seq ?_
        refine WC.region ?_
        refine WL.quiet (Qt.fieldAddrB tf30_2 rfl) rfl rfl ?_
        refine WL.quiet (Qt.loadB 0 rfl ta28 rfl rfl) rfl rfl ?_
        refine WL.quiet (Qt.lenS Tryd.underlying28 rfl) rfl rfl ?_
        refine WL.quiet (Qt.move rfl) rfl rfl ?_
        refine WL.nil ?_
        refine WX.next ?_
        refine WC.block ?_
        refine WC.turn (.nil) (nil_row (e := kInt) (t := 3)) ?_
        rintro _ rfl
        refine WC.loop (fun w0 : Nat × (Option Addr) × Nat × (List Int) => [(2, .slice none 0 0), (3, .slice w0.2.1 w0.2.2.2.length w0.2.2.1), (17, .slice A t.kids.length c), (18, .int .i64 ((t.kids.length : Nat) : Int)), (19, .int .i64 ((w0.1 : Nat) : Int))]) (fun w0 => [row kInt 3 w0.2.1 w0.2.2.1 w0.2.2.2, blk b_1 30 [.int .i64 t.kind, .int .i64 t.n, .slice A t.kids.length c], rd kTree A c t.kids]) (fun w0 => w0.1 ≤ t.kids.length ∧ w0.2.2.2 = leavesL (t.kids.take w0.1)) (fun w0 => t.kids.length - w0.1) (0, none, 0, []) ⟨Nat.zero_le _, rfl⟩ ⟨rfl, rfl, rfl, rfl, rfl, trivial⟩ (.take 0 rfl (.take 0 rfl (.use 0 rfl (fun _ h => h) (.nil)))) ?_
        rintro ⟨k, A1, c1, acc⟩ ⟨hk, hacc⟩
        try dsimp only at hk hacc
        show WC _ _ _ _ _ _ [(2, .slice none 0 0), (3, .slice A1 acc.length c1), (17, .slice A t.kids.length c), (18, .int .i64 ((t.kids.length : Nat) : Int)), (19, .int .i64 ((k : Nat) : Int))] [row kInt 3 A1 c1 acc, blk b_1 30 [.int .i64 t.kind, .int .i64 t.n, .slice A t.kids.length c], rd kTree A c t.kids]
        refine WC.seq ?_
        refine WC.region ?_
        refine WL.quiet (Qt.lss rfl rfl) rfl rfl ?_
        refine WL.nil ?_
        refine WX.next ?_
        refine WC.seq ?_
        refine WC.condD rfl (fun hc_4 => ?_) (fun hc_4 => ?_)
        ·
          refine WC.skip ?_
          refine WX.next ?_
          refine WC.seq ?_
          refine WC.block ?_
          refine WC.seq ?_
          refine WC.region ?_
          have hj_1 : k < t.kids.length := by omega
          refine WL.learn 2 rfl (rd_at k hj_1 (vTree _)) ?_
          rintro ⟨p_1, ⟨A_1, c_1⟩⟩ hA_1
          refine WL.quiet (Qt.indexAddrE k hA_1 Tryd.underlying28 ti30 rfl rfl (by first | assumption | omega)) rfl rfl ?_
          refine WL.quiet (Qt.loadCA (p := p_1.add (k * 3)) (o := 0) 0 rfl ta30 ti30 rfl rfl) rfl rfl ?_
          refine WL.loud (.nil) (Ld.alloc ti30 rfl) trivial rfl ?_
          rintro _ _ ⟨b_3, rfl, rfl⟩
          refine WL.loud (.take 0 rfl (.nil)) (Ld.store ti30 rfl rfl rfl rfl rfl rfl) trivial rfl ?_
          rintro _ _ rfl
          refine WL.nil ?_
          refine WX.next ?_
          refine WC.region ?_
          refine WL.quiet (Qt.move rfl) rfl rfl ?_
          refine WL.quiet (Qt.loadBA 0 rfl ta30 ti30 rfl rfl) rfl rfl ?_
          have hkid := leavesL_kid t.kids k (by omega)
          have hacc2 : acc.length = (leavesL (t.kids.take k)).length := by rw [hacc]
          rw [← hL] at hkid
          refine WL.call (.use 2 rfl (fun _ h => h) (.nil)) (Cl.func cb32 rfl) (ih (t.kids[k]) _ _ (by have := kid_size t k (by omega); omega) (by omega)) trivial rfl ?_
          rintro _ _ ⟨A_2, c_2, rfl, rfl⟩
          refine WL.turn (.take 0 rfl (.nil)) (freeze_row) ?_
          rintro _ rfl
          refine WL.loud (.take 4 rfl (.use 0 rfl (fun _ h => h) (.nil))) (Ld.appendRd (e := kInt) (xs := acc) (ys := (t.kids[k].leaves)) Tryd.underlying74 ti3 rfl (by decide) (by decide) rfl rfl (by first | omega | (simp; omega))) trivial rfl ?_
          rintro _ _ ⟨A_3, c_3, rfl, rfl⟩
          refine WL.quiet (Qt.assign rfl) rfl rfl ?_
          refine WL.nil ?_
          refine WX.block_end ?_
          refine WX.next ?_
          refine WC.region ?_
          refine WL.quiet (Qt.add rfl rfl (by omega)) rfl rfl ?_
          refine WL.quiet (Qt.move rfl) rfl rfl ?_
          refine WL.nil ?_
          exact WX.back (k + 1, A_3, c_3, acc ++ t.kids[k].leaves) ⟨by omega, by rw [leavesL_take _ _ (by omega), hacc]⟩ (by first | omega | (dsimp only; omega) | (simp; omega)) ⟨rfl, rfl, rfl, rfl, rfl, trivial⟩ (.take 0 rfl (.take 4 rfl (.use 4 rfl (fun _ h => h) (.nil))))
        ·
          refine WC.exit ?_
          refine WX.pass_exit ?_
          refine WX.pass_exit ?_
          refine WX.block_exit ?_
          refine WX.next ?_
          refine WC.seq ?_
          refine WC.region ?_
          refine WL.quiet (Qt.move rfl) rfl rfl ?_
          refine WL.quiet (Qt.assign rfl) rfl rfl ?_
          refine WL.nil ?_
          refine WX.next ?_
          refine WC.ret ?_
          refine WX.block_ret ?_
          refine WX.pass_ret ?_
          have hlL : acc = t.leaves := by rw [hacc, List.take_of_length_le (by omega), hL]
          subst hlL
          refine WX.ret1 (.take 0 rfl (.nil)) rfl rfl ?_
          exact ⟨_, _, rfl, rfl⟩
      ·
        refine WC.skip ?_
        refine WX.block_end ?_
        refine WX.next ?_
        refine WC.seq ?_
        refine WC.region ?_
        refine WL.quiet (Qt.assign rfl) rfl rfl ?_
        refine WL.nil ?_
        refine WX.next ?_
        refine WC.ret ?_
        have hlN := leaves_none t (by omega) (by omega) (by omega)
        refine WX.turn (.nil) (nil_row (e := kInt) (t := 3)) ?_
        rintro _ rfl
        refine WX.ret1 (.take 0 rfl (.nil)) rfl rfl ?_
        exact ⟨_, _, by rw [hlN] <;> rfl, by rw [hlN] <;> rfl⟩
    ·
      refine WC.region ?_
      refine WL.quiet (Qt.eql rfl rfl) rfl rfl ?_
      refine WL.quiet (Qt.assign rfl) rfl rfl ?_
      refine WL.nil ?_
      refine WX.next ?_
      refine WC.condD rfl (fun hc_5 => ?_) (fun hc_5 => ?_)
      ·
        refine WC.seq ?_
        have hL : t.leaves = leavesL t.kids := leaves_kids t (by omega)
        refine WC.region ?_
        refine WL.quiet (Qt.assign rfl) rfl rfl ?_
        refine WL.nil ?_
        refine WX.next ?_
        refine WC.seq ?_
        refine WC.seq ?_
        refine WC.region ?_
        refine WL.quiet (Qt.fieldAddrB tf30_2 rfl) rfl rfl ?_
        refine WL.quiet (Qt.loadB 0 rfl ta28 rfl rfl) rfl rfl ?_
        refine WL.quiet (Qt.lenS Tryd.underlying28 rfl) rfl rfl ?_
        refine WL.quiet (Qt.move rfl) rfl rfl ?_
        refine WL.nil ?_
        refine WX.next ?_
        refine WC.block ?_
        refine WC.turn (.nil) (nil_row (e := kInt) (t := 3)) ?_
        rintro _ rfl
        refine WC.loop (fun w0 : Nat × (Option Addr) × Nat × (List Int) => [(2, .slice none 0 0), (3, .slice w0.2.1 w0.2.2.2.length w0.2.2.1), (17, .slice A t.kids.length c), (18, .int .i64 ((t.kids.length : Nat) : Int)), (19, .int .i64 ((w0.1 : Nat) : Int))]) (fun w0 => [row kInt 3 w0.2.1 w0.2.2.1 w0.2.2.2, blk b_1 30 [.int .i64 t.kind, .int .i64 t.n, .slice A t.kids.length c], rd kTree A c t.kids]) (fun w0 => w0.1 ≤ t.kids.length ∧ w0.2.2.2 = leavesL (t.kids.take w0.1)) (fun w0 => t.kids.length - w0.1) (0, none, 0, []) ⟨Nat.zero_le _, rfl⟩ ⟨rfl, rfl, rfl, rfl, rfl, trivial⟩ (.take 0 rfl (.take 0 rfl (.use 0 rfl (fun _ h => h) (.nil)))) ?_
        rintro ⟨k, A1, c1, acc⟩ ⟨hk, hacc⟩
        try dsimp only at hk hacc
        show WC _ _ _ _ _ _ [(2, .slice none 0 0), (3, .slice A1 acc.length c1), (17, .slice A t.kids.length c), (18, .int .i64 ((t.kids.length : Nat) : Int)), (19, .int .i64 ((k : Nat) : Int))] [row kInt 3 A1 c1 acc, blk b_1 30 [.int .i64 t.kind, .int .i64 t.n, .slice A t.kids.length c], rd kTree A c t.kids]
        refine WC.seq ?_
        refine WC.region ?_
        refine WL.quiet (Qt.lss rfl rfl) rfl rfl ?_
        refine WL.nil ?_
        refine WX.next ?_
        refine WC.seq ?_
        refine WC.condD rfl (fun hc_6 => ?_) (fun hc_6 => ?_)
        ·
          refine WC.skip ?_
          refine WX.next ?_
          refine WC.seq ?_
          refine WC.block ?_
          refine WC.seq ?_
          refine WC.region ?_
          have hj_2 : k < t.kids.length := by omega
          refine WL.learn 2 rfl (rd_at k hj_2 (vTree _)) ?_
          rintro ⟨p_2, ⟨A_4, c_4⟩⟩ hA_2
          refine WL.quiet (Qt.indexAddrE k hA_2 Tryd.underlying28 ti30 rfl rfl (by first | assumption | omega)) rfl rfl ?_
          refine WL.quiet (Qt.loadCA (p := p_2.add (k * 3)) (o := 0) 0 rfl ta30 ti30 rfl rfl) rfl rfl ?_
          refine WL.loud (.nil) (Ld.alloc ti30 rfl) trivial rfl ?_
          rintro _ _ ⟨b_4, rfl, rfl⟩
          refine WL.loud (.take 0 rfl (.nil)) (Ld.store ti30 rfl rfl rfl rfl rfl rfl) trivial rfl ?_
          rintro _ _ rfl
          refine WL.nil ?_
          refine WX.next ?_
          refine WC.region ?_
          refine WL.quiet (Qt.move rfl) rfl rfl ?_
          refine WL.quiet (Qt.loadBA 0 rfl ta30 ti30 rfl rfl) rfl rfl ?_
          have hkid := leavesL_kid t.kids k (by omega)
          have hacc2 : acc.length = (leavesL (t.kids.take k)).length := by rw [hacc]
          rw [← hL] at hkid
          refine WL.call (.use 2 rfl (fun _ h => h) (.nil)) (Cl.func cb32 rfl) (ih (t.kids[k]) _ _ (by have := kid_size t k (by omega); omega) (by omega)) trivial rfl ?_
          rintro _ _ ⟨A_5, c_5, rfl, rfl⟩
          refine WL.turn (.take 0 rfl (.nil)) (freeze_row) ?_
          rintro _ rfl
          refine WL.loud (.take 4 rfl (.use 0 rfl (fun _ h => h) (.nil))) (Ld.appendRd (e := kInt) (xs := acc) (ys := (t.kids[k].leaves)) Tryd.underlying74 ti3 rfl (by decide) (by decide) rfl rfl (by first | omega | (simp; omega))) trivial rfl ?_
          rintro _ _ ⟨A_6, c_6, rfl, rfl⟩
          refine WL.quiet (Qt.assign rfl) rfl rfl ?_
          refine WL.nil ?_
          refine WX.block_end ?_
          refine WX.next ?_
          refine WC.region ?_
          refine WL.quiet (Qt.add rfl rfl (by omega)) rfl rfl ?_
          refine WL.quiet (Qt.move rfl) rfl rfl ?_
          refine WL.nil ?_
          exact WX.back (k + 1, A_6, c_6, acc ++ t.kids[k].leaves) ⟨by omega, by rw [leavesL_take _ _ (by omega), hacc]⟩ (by first | omega | (dsimp only; omega) | (simp; omega)) ⟨rfl, rfl, rfl, rfl, rfl, trivial⟩ (.take 0 rfl (.take 4 rfl (.use 4 rfl (fun _ h => h) (.nil))))
        ·
          refine WC.exit ?_
          refine WX.pass_exit ?_
          refine WX.pass_exit ?_
          refine WX.block_exit ?_
          refine WX.next ?_
          refine WC.seq ?_
          refine WC.region ?_
          refine WL.quiet (Qt.move rfl) rfl rfl ?_
          refine WL.quiet (Qt.assign rfl) rfl rfl ?_
          refine WL.nil ?_
          refine WX.next ?_
          refine WC.ret ?_
          refine WX.block_ret ?_
          refine WX.pass_ret ?_
          have hlL : acc = t.leaves := by rw [hacc, List.take_of_length_le (by omega), hL]
          subst hlL
          refine WX.ret1 (.take 0 rfl (.nil)) rfl rfl ?_
          exact ⟨_, _, rfl, rfl⟩
      ·
        refine WC.skip ?_
        refine WX.block_end ?_
        refine WX.next ?_
        refine WC.seq ?_
        refine WC.region ?_
        refine WL.quiet (Qt.assign rfl) rfl rfl ?_
        refine WL.nil ?_
        refine WX.next ?_
        refine WC.ret ?_
        have hlN := leaves_none t (by omega) (by omega) (by omega)
        refine WX.turn (.nil) (nil_row (e := kInt) (t := 3)) ?_
        rintro _ rfl
        refine WX.ret1 (.take 0 rfl (.nil)) rfl rfl ?_
        exact ⟨_, _, by rw [hlN] <;> rfl, by rw [hlN] <;> rfl⟩
theorem leavesW (t : PT) (A : Option Addr) (c : Nat) (hlen : t.leaves.length ≤ 1000000) : Spec μ Tryd.prog 32 #[.agg [.int .i64 t.kind, .int .i64 t.n, .slice A t.kids.length c].toArray] [rd kTree A c t.kids] fun v Δ => ∃ A1 c1, v = .slice A1 t.leaves.length c1 ∧ Δ = [row kInt 3 A1 c1 t.leaves] := leavesW_ih _ t A c (Nat.lt_succ_self _) hlen

end Go.Proofs.YtkhmbhdlfpalkaaDoor.Sep

/- A walk, printed by gen.py out of hints. -/
namespace Go.Proofs.YtkhmbhdlfpalkaaDoor.Sep
open Go
variable {μ : Prop}
theorem minW (xs : List Int) (A : Option Addr) (c : Nat) (hne : 0 < xs.length) : Spec μ Tryd.prog 31 #[.slice A xs.length c] [rd kInt A c xs] fun v Δ => v = .int .i64 (minL xs) ∧ Δ = [] := by
  refine Spec.of_body (n := 25) Tryd.func31 rfl rfl rfl fun w0 S0 O0 => ?_
  show WC _ _ _ _ _ _ [(0, .slice A xs.length c)] [rd kInt A c xs]
  refine WC.learn (Z := Unit) (Δ := fun _ => []) (φ := fun _ => xs.length ≤ c ∧ c ≤ 9223372036854775807) 0 rfl (fun S w h => ⟨(), rd_bounds h, nofacts⟩) ?_
  rintro _ ⟨hb_1, hb_2⟩
  refine WC.seq ?_
  refine WC.region ?_
  refine WL.quiet (Qt.assign rfl) rfl rfl ?_
  refine WL.nil ?_
  refine WX.next ?_
  refine WC.seq ?_
  refine WC.seq ?_
  refine WC.region ?_
  refine WL.quiet (Qt.move rfl) rfl rfl ?_
  refine WL.quiet (Qt.lenS Tryd.underlying74 rfl) rfl rfl ?_
  refine WL.quiet (Qt.lss rfl rfl) rfl rfl ?_
  refine WL.nil ?_
  refine WX.next ?_
  refine WC.condD rfl (fun hc_1 => ?_) (fun hc_1 => ?_)
  ·
    exact absurd hc_1 (by omega)
  ·
    refine WC.skip ?_
    refine WX.next ?_
    refine WC.seq ?_
    refine WC.region ?_
    refine WL.quiet (Qt.move rfl) rfl rfl ?_
    have hj_1 : 0 < xs.length := by omega
    refine WL.learn 0 rfl (rd_at 0 hj_1 (vInt _)) ?_
    rintro ⟨p_1, ⟨⟩⟩ hA_1
    refine WL.quiet (Qt.indexAddrE 0 hA_1 Tryd.underlying74 ti3 rfl rfl (by first | assumption | omega)) rfl rfl ?_
    refine WL.quiet (Qt.loadC (p := p_1.add (0 * 1)) (o := 0) 0 rfl ta3 rfl rfl) rfl rfl ?_
    refine WL.quiet (Qt.assign rfl) rfl rfl ?_
    refine WL.nil ?_
    refine WX.next ?_
    refine WC.seq ?_
    refine WC.seq ?_
    refine WC.region ?_
    refine WL.quiet (Qt.assign rfl) rfl rfl ?_
    refine WL.nil ?_
    refine WX.next ?_
    refine WC.block ?_
    refine WC.loop (fun w0 : Nat × Int => [(0, .slice A xs.length c), (2, .int .i64 0), (3, .int .i64 w0.2), (4, .int .i64 ((w0.1 : Nat) : Int))]) (fun w0 => [cellsAt (p_1.add (0 * 1)) [.int .i64 (xs[0])], rd kInt A c xs]) (fun w0 => 1 ≤ w0.1 ∧ w0.1 ≤ xs.length ∧ w0.2 = minL (xs.take w0.1)) (fun w0 => xs.length - w0.1) (1, xs[0]) ⟨Nat.le_refl _, by omega, by rw [minL_one xs (by omega)]⟩ ⟨rfl, rfl, rfl, rfl, trivial⟩ (.use 0 rfl (fun _ h => h) (.use 1 rfl (fun _ h => h) (.nil))) ?_
    rintro ⟨k, m⟩ ⟨hk0, hk, hm⟩
    try dsimp only at hk0 hk hm
    show WC _ _ _ _ _ _ [(0, .slice A xs.length c), (2, .int .i64 0), (3, .int .i64 m), (4, .int .i64 ((k : Nat) : Int))] [cellsAt (p_1.add (0 * 1)) [.int .i64 (xs[0])], rd kInt A c xs]
    refine WC.seq ?_
    refine WC.seq ?_
    refine WC.region ?_
    refine WL.quiet (Qt.move rfl) rfl rfl ?_
    refine WL.quiet (Qt.move rfl) rfl rfl ?_
    refine WL.quiet (Qt.lenS Tryd.underlying74 rfl) rfl rfl ?_
    refine WL.quiet (Qt.lss rfl rfl) rfl rfl ?_
    refine WL.nil ?_
    refine WX.next ?_
    refine WC.condD rfl (fun hc_2 => ?_) (fun hc_2 => ?_)
    ·
      refine WC.skip ?_
      refine WX.next ?_
      refine WC.seq ?_
      refine WC.block ?_
      refine WC.region ?_
      refine WL.quiet (Qt.move rfl) rfl rfl ?_
      refine WL.quiet (Qt.move rfl) rfl rfl ?_
      refine WL.quiet (Qt.move rfl) rfl rfl ?_
      have hj_2 : k < xs.length := by omega
      refine WL.learn 1 rfl (rd_at k hj_2 (vInt _)) ?_
      rintro ⟨p_2, ⟨⟩⟩ hA_2
      refine WL.quiet (Qt.indexAddrE k hA_2 Tryd.underlying74 ti3 rfl rfl (by first | assumption | omega)) rfl rfl ?_
      refine WL.quiet (Qt.loadC (p := p_2.add (k * 1)) (o := 0) 0 rfl ta3 rfl rfl) rfl rfl ?_
      refine WL.quiet (Qt.min2 rfl rfl) rfl rfl ?_
      refine WL.quiet (Qt.assign rfl) rfl rfl ?_
      refine WL.nil ?_
      refine WX.block_end ?_
      refine WX.next ?_
      refine WC.region ?_
      refine WL.quiet (Qt.move rfl) rfl rfl ?_
      refine WL.quiet (Qt.add rfl rfl (by omega)) rfl rfl ?_
      refine WL.quiet (Qt.assign rfl) rfl rfl ?_
      refine WL.nil ?_
      exact WX.back (k + 1, if (xs[k]) < m then (xs[k]) else m) ⟨by omega, by omega, by rw [minL_take _ _ hk0 (by omega), ← hm]⟩ (by first | omega | (dsimp only; omega) | (simp; omega)) ⟨rfl, rfl, rfl, rfl, trivial⟩ (.use 1 rfl (fun _ h => h) (.use 2 rfl (fun _ h => h) (.nil)))
    ·
      refine WC.exit ?_
      refine WX.pass_exit ?_
      refine WX.pass_exit ?_
      refine WX.block_exit ?_
      refine WX.next ?_
      refine WC.seq ?_
      refine WC.region ?_
      refine WL.quiet (Qt.move rfl) rfl rfl ?_
      refine WL.quiet (Qt.assign rfl) rfl rfl ?_
      refine WL.nil ?_
      refine WX.next ?_
      refine WC.ret ?_
      refine WX.ret1 (.nil) rfl rfl ?_
      exact ⟨by rw [hm, List.take_of_length_le (by omega)], rfl⟩

end Go.Proofs.YtkhmbhdlfpalkaaDoor.Sep

/- A walk, printed by gen.py out of hints. -/
namespace Go.Proofs.YtkhmbhdlfpalkaaDoor.Sep
open Go
variable {μ : Prop}
theorem isNaNW (x : Int)  : Spec μ Tryd.prog 53 #[.int .i64 x] [] fun v Δ => v = .bool false ∧ Δ = [] := by
  refine Spec.of_body (n := 6) Tryd.func53 rfl rfl rfl fun w0 S0 O0 => ?_
  show WC _ _ _ _ _ _ [(0, .int .i64 x)] []
  refine WC.seq ?_
  refine WC.region ?_
  refine WL.quiet (Qt.assign rfl) rfl rfl ?_
  refine WL.nil ?_
  refine WX.next ?_
  refine WC.seq ?_
  refine WC.region ?_
  refine WL.quiet (Qt.move rfl) rfl rfl ?_
  refine WL.quiet (Qt.move rfl) rfl rfl ?_
  refine WL.quiet (Qt.neq rfl rfl) rfl rfl ?_
  refine WL.quiet (Qt.assign rfl) rfl rfl ?_
  refine WL.nil ?_
  refine WX.next ?_
  refine WC.ret ?_
  refine WX.ret1 (.nil) rfl rfl ?_
  exact ⟨by simp, rfl⟩

end Go.Proofs.YtkhmbhdlfpalkaaDoor.Sep

/- A walk, printed by gen.py out of hints. -/
namespace Go.Proofs.YtkhmbhdlfpalkaaDoor.Sep
open Go
variable {μ : Prop}
theorem compareW (x y : Int)  : Spec μ Tryd.prog 30 #[.int .i64 x, .int .i64 y] [] fun v Δ => v = .int .i64 (cmpI x y) ∧ Δ = [] := by
  refine Spec.of_body (n := 20) Tryd.func30 rfl rfl rfl fun w0 S0 O0 => ?_
  show WC _ _ _ _ _ _ [(0, .int .i64 x), (1, .int .i64 y)] []
  refine WC.seq ?_
  refine WC.region ?_
  refine WL.quiet (Qt.assign rfl) rfl rfl ?_
  refine WL.nil ?_
  refine WX.next ?_
  refine WC.seq ?_
  refine WC.region ?_
  refine WL.quiet (Qt.move rfl) rfl rfl ?_
  refine WL.call (.nil) (Cl.func cb53 rfl) (isNaNW x) trivial rfl ?_
  rintro _ _ ⟨rfl, rfl⟩
  refine WL.quiet (Qt.assign rfl) rfl rfl ?_
  refine WL.nil ?_
  refine WX.next ?_
  refine WC.seq ?_
  refine WC.region ?_
  refine WL.quiet (Qt.move rfl) rfl rfl ?_
  refine WL.call (.nil) (Cl.func cb53 rfl) (isNaNW y) trivial rfl ?_
  rintro _ _ ⟨rfl, rfl⟩
  refine WL.quiet (Qt.assign rfl) rfl rfl ?_
  refine WL.nil ?_
  refine WX.next ?_
  refine WC.seq ?_
  refine WC.seq ?_
  refine WC.region ?_
  refine WL.quiet (Qt.move rfl) rfl rfl ?_
  refine WL.nil ?_
  refine WX.next ?_
  refine WC.no rfl ?_
  refine WC.skip ?_
  refine WX.next ?_
  refine WC.seq ?_
  refine WC.seq ?_
  refine WC.region ?_
  refine WL.quiet (Qt.move rfl) rfl rfl ?_
  refine WL.nil ?_
  refine WX.next ?_
  refine WC.no rfl ?_
  refine WC.skip ?_
  refine WX.next ?_
  refine WC.seq ?_
  refine WC.seq ?_
  refine WC.region ?_
  refine WL.quiet (Qt.move rfl) rfl rfl ?_
  refine WL.quiet (Qt.move rfl) rfl rfl ?_
  refine WL.quiet (Qt.lss rfl rfl) rfl rfl ?_
  refine WL.nil ?_
  refine WX.next ?_
  refine WC.condD rfl (fun hc_1 => ?_) (fun hc_1 => ?_)
  ·
    refine WC.seq ?_
    refine WC.region ?_
    refine WL.quiet (Qt.assign rfl) rfl rfl ?_
    refine WL.nil ?_
    refine WX.next ?_
    refine WC.ret ?_
    refine WX.pass_ret ?_
    refine WX.ret1 (.nil) rfl rfl ?_
    exact ⟨by unfold cmpI; congr 1; omega, rfl⟩
  ·
    refine WC.skip ?_
    refine WX.next ?_
    refine WC.seq ?_
    refine WC.seq ?_
    refine WC.region ?_
    refine WL.quiet (Qt.move rfl) rfl rfl ?_
    refine WL.quiet (Qt.move rfl) rfl rfl ?_
    refine WL.quiet (Qt.gtr rfl rfl) rfl rfl ?_
    refine WL.nil ?_
    refine WX.next ?_
    refine WC.condD rfl (fun hc_2 => ?_) (fun hc_2 => ?_)
    ·
      refine WC.seq ?_
      refine WC.region ?_
      refine WL.quiet (Qt.assign rfl) rfl rfl ?_
      refine WL.nil ?_
      refine WX.next ?_
      refine WC.ret ?_
      refine WX.pass_ret ?_
      refine WX.ret1 (.nil) rfl rfl ?_
      exact ⟨by unfold cmpI; congr 1; omega, rfl⟩
    ·
      refine WC.skip ?_
      refine WX.next ?_
      refine WC.seq ?_
      refine WC.region ?_
      refine WL.quiet (Qt.assign rfl) rfl rfl ?_
      refine WL.nil ?_
      refine WX.next ?_
      refine WC.ret ?_
      refine WX.ret1 (.nil) rfl rfl ?_
      exact ⟨by unfold cmpI; congr 1; omega, rfl⟩

end Go.Proofs.YtkhmbhdlfpalkaaDoor.Sep

/- A walk, printed by gen.py out of hints. -/
namespace Go.Proofs.YtkhmbhdlfpalkaaDoor.Sep
open Go
variable {μ : Prop}
theorem cmpTreesW (a b : PT) (A B : Option Addr) (c d : Nat) (ha : 0 < a.leaves.length ∧ a.leaves.length ≤ 1000000) (hb : 0 < b.leaves.length ∧ b.leaves.length ≤ 1000000) : Spec μ Tryd.prog 29 #[.agg [.int .i64 a.kind, .int .i64 a.n, .slice A a.kids.length c].toArray, .agg [.int .i64 b.kind, .int .i64 b.n, .slice B b.kids.length d].toArray] [rd kTree A c a.kids, rd kTree B d b.kids] fun v Δ => v = .int .i64 (cmpI (leastT a) (leastT b)) ∧ Δ = [] := by
  refine Spec.of_body (n := 12) Tryd.func29 rfl rfl rfl fun w0 S0 O0 => ?_
  show WC _ _ _ _ _ _ [(0, .agg [.int .i64 a.kind, .int .i64 a.n, .slice A a.kids.length c].toArray), (1, .agg [.int .i64 b.kind, .int .i64 b.n, .slice B b.kids.length d].toArray)] [rd kTree A c a.kids, rd kTree B d b.kids]
  refine WC.seq ?_
  refine WC.region ?_
  refine WL.loud (.nil) (Ld.box rfl rfl) trivial rfl ?_
  rintro _ _ ⟨b_1, rfl, rfl⟩
  refine WL.loud (.nil) (Ld.box rfl rfl) trivial rfl ?_
  rintro _ _ ⟨b_2, rfl, rfl⟩
  refine WL.quiet (Qt.assign rfl) rfl rfl ?_
  refine WL.nil ?_
  refine WX.next ?_
  refine WC.seq ?_
  refine WC.draw (Γq := [blk b_2 30 [.int .i64 b.kind, .int .i64 b.n, .slice B b.kids.length d], blk b_1 30 [.int .i64 a.kind, .int .i64 a.n, .slice A a.kids.length c], rd kTree A c a.kids, rd kTree B d b.kids]) [0, 1, 2, 3, 4, 5, 6] mixed ?_
  refine WA.take (by kernel_rfl) 0 (by decide) rfl (by kernel_rfl) (by kernel_rfl) (by kernel_rfl) (Calm.then (calm_FQ _ _)) (Qt.loadBA 1 rfl ta30 ti30 rfl rfl) trivial rfl (.take 0 rfl (.take 0 rfl (.use 0 rfl (fun _ h => h) (.use 1 rfl (fun _ h => h) (.nil))))) ?_
  refine WA.take (by kernel_rfl) 3 (by decide) rfl (by kernel_rfl) (by kernel_rfl) (by kernel_rfl) (Calm.then (calm_FQ _ _)) (Qt.loadBA 0 rfl ta30 ti30 rfl rfl) trivial rfl (.take 0 rfl (.take 0 rfl (.use 0 rfl (fun _ h => h) (.use 1 rfl (fun _ h => h) (.nil))))) ?_
  refine WA.one 1 (by kernel_rfl) ?_
  refine WO.call rfl (.use 2 rfl (fun _ h => h) (.nil)) (Cl.func cb32 rfl) (leavesW a _ _ (by omega)) trivial rfl (by rintro _ _ ⟨A_1, c_1, rfl, rfl⟩; exact ⟨_, (.take 1 rfl (.take 1 rfl (.use 1 rfl (fun _ h => h) (.use 2 rfl (fun _ h => h) (.nil)))))⟩) ?_
  rintro _ _ ⟨A_1, c_1, rfl, rfl⟩
  refine WA.turn (.take 0 rfl (.nil)) (freeze_row) ?_
  rintro _ rfl
  refine WA.one 2 (by kernel_rfl) ?_
  refine WO.call rfl (.use 0 rfl (fun _ h => h) (.nil)) (Cl.func cb31 rfl) (minW a.leaves _ _ (by omega)) trivial rfl (by rintro _ _ ⟨rfl, rfl⟩; exact ⟨_, (.take 1 rfl (.take 1 rfl (.use 1 rfl (fun _ h => h) (.use 2 rfl (fun _ h => h) (.nil)))))⟩) ?_
  rintro _ _ ⟨rfl, rfl⟩
  refine WA.one 4 (by kernel_rfl) ?_
  refine WO.call rfl (.use 4 rfl (fun _ h => h) (.nil)) (Cl.func cb32 rfl) (leavesW b _ _ (by omega)) trivial rfl (by rintro _ _ ⟨A_2, c_2, rfl, rfl⟩; exact ⟨_, (.take 2 rfl (.take 2 rfl (.use 2 rfl (fun _ h => h) (.use 3 rfl (fun _ h => h) (.nil)))))⟩) ?_
  rintro _ _ ⟨A_2, c_2, rfl, rfl⟩
  refine WA.turn (.take 0 rfl (.nil)) (freeze_row) ?_
  rintro _ rfl
  refine WA.one 5 (by kernel_rfl) ?_
  refine WO.call rfl (.use 0 rfl (fun _ h => h) (.nil)) (Cl.func cb31 rfl) (minW b.leaves _ _ (by omega)) trivial rfl (by rintro _ _ ⟨rfl, rfl⟩; exact ⟨_, (.take 2 rfl (.take 2 rfl (.use 2 rfl (fun _ h => h) (.use 3 rfl (fun _ h => h) (.nil)))))⟩) ?_
  rintro _ _ ⟨rfl, rfl⟩
  refine WA.one 6 (by kernel_rfl) ?_
  refine WO.call rfl (.nil) (Cl.func cb30 rfl) (compareW (minL a.leaves) (minL b.leaves)) trivial rfl (by rintro _ _ ⟨rfl, rfl⟩; exact ⟨_, (.take 2 rfl (.take 2 rfl (.use 2 rfl (fun _ h => h) (.use 3 rfl (fun _ h => h) (.nil)))))⟩) ?_
  rintro _ _ ⟨rfl, rfl⟩
  refine WA.phase (K' := [0, 1, 2, 3, 4, 5, 6, 7]) (Γq' := [rd kInt A_2 c_2 b.leaves, rd kInt A_1 c_1 a.leaves, blk b_2 30 [.int .i64 b.kind, .int .i64 b.n, .slice B b.kids.length d], blk b_1 30 [.int .i64 a.kind, .int .i64 a.n, .slice A a.kids.length c], rd kTree A c a.kids, rd kTree B d b.kids]) (by kernel_rfl) ?_
  refine WA.take (by kernel_rfl) 7 (by decide) rfl (by kernel_rfl) (by kernel_rfl) (by kernel_rfl) (Calm.then (calm_FQ _ _)) (Qt.assign rfl) trivial rfl (.use 0 rfl (fun _ h => h) (.use 1 rfl (fun _ h => h) (.take 2 rfl (.take 2 rfl (.use 2 rfl (fun _ h => h) (.use 3 rfl (fun _ h => h) (.nil))))))) ?_
  refine WA.done (by kernel_rfl) ?_
  refine WX.next ?_
  refine WC.ret ?_
  refine WX.ret1 (.nil) rfl rfl ?_
  exact ⟨rfl, rfl⟩

end Go.Proofs.YtkhmbhdlfpalkaaDoor.Sep

/- A walk, printed by gen.py out of hints. -/
namespace Go.Proofs.YtkhmbhdlfpalkaaDoor.Sep
open Go
variable {μ : Prop}
theorem sortedW_ih (m : Nat) : ∀ (t : PT) (A : Option Addr) (c : Nat), SizeOf.sizeOf t < m → t.ok → (t.nodes ≤ 300000) → Spec μ Tryd.prog 15 #[.agg [.int .i64 t.kind, .int .i64 t.n, .slice A t.kids.length c].toArray] [rd kTree A c t.kids] fun v Δ => ∃ u A1 c1, v = .agg #[.int .i64 u.kind, .int .i64 u.n, .slice A1 u.kids.length c1] ∧ Δ = [rd kTree A1 c1 u.kids] ∧ SortedT t u := by
  induction m with
  | zero => exact fun t A c h => absurd h (Nat.not_lt_zero _)
  | succ m ih =>
  intro t A c hsz hok hnd
  refine Spec.of_body (n := 33) Tryd.func15 rfl rfl rfl fun w0 S0 O0 => ?_
  show WC _ _ _ _ _ _ [(0, .agg [.int .i64 t.kind, .int .i64 t.n, .slice A t.kids.length c].toArray)] [rd kTree A c t.kids]
  refine WC.learn (Z := Unit) (Δ := fun _ => []) (φ := fun _ => t.kids.length ≤ c ∧ c ≤ 9223372036854775807) 0 rfl (fun S w h => ⟨(), rd_bounds h, nofacts⟩) ?_
  rintro _ ⟨hb_1, hb_2⟩
  refine WC.seq ?_
  refine WC.region ?_
  refine WL.loud (.nil) (Ld.box rfl rfl) trivial rfl ?_
  rintro _ _ ⟨b_1, rfl, rfl⟩
  refine WL.loud (.nil) (Ld.alloc ti30 rfl) trivial rfl ?_
  rintro _ _ ⟨b_2, rfl, rfl⟩
  refine WL.nil ?_
  refine WX.next ?_
  refine WC.seq ?_
  refine WC.region ?_
  refine WL.quiet (Qt.fieldAddrB tf30_0 rfl) rfl rfl ?_
  refine WL.quiet (Qt.loadB 1 rfl ta3 rfl rfl) rfl rfl ?_
  refine WL.quiet (Qt.fieldAddrB tf30_1 rfl) rfl rfl ?_
  refine WL.quiet (Qt.loadB 1 rfl ta3 rfl rfl) rfl rfl ?_
  refine WL.quiet (Qt.build tp30 ti30 rfl rfl rfl) rfl rfl ?_
  refine WL.loud (.nil) (Ld.alloc ti30 rfl) trivial rfl ?_
  rintro _ _ ⟨b_3, rfl, rfl⟩
  refine WL.loud (.take 0 rfl (.nil)) (Ld.store ti30 rfl rfl rfl rfl rfl rfl) trivial rfl ?_
  rintro _ _ rfl
  refine WL.nil ?_
  refine WX.next ?_
  refine WC.seq ?_
  refine WC.seq ?_
  refine WC.region ?_
  refine WL.quiet (Qt.fieldAddrB tf30_2 rfl) rfl rfl ?_
  refine WL.quiet (Qt.loadB 2 rfl ta28 rfl rfl) rfl rfl ?_
  refine WL.quiet (Qt.lenS Tryd.underlying28 rfl) rfl rfl ?_
  refine WL.quiet (Qt.move rfl) rfl rfl ?_
  refine WL.nil ?_
  refine WX.next ?_
  refine WC.block ?_
  refine WC.turn (.nil) (nil_row (e := kTree) (t := 30)) ?_
  rintro _ rfl
  refine WC.loop (fun w0 : Nat × (Option Addr) × Nat × (List PT) => [(2, .pointer (some ⟨b_2, 0, none⟩)), (3, .pointer (some ⟨b_3, 0, none⟩)), (12, .slice A t.kids.length c), (13, .int .i64 ((t.kids.length : Nat) : Int)), (14, .int .i64 ((w0.1 : Nat) : Int))]) (fun w0 => [row kTree 30 w0.2.1 w0.2.2.1 w0.2.2.2, blk b_3 30 [.int .i64 t.kind, .int .i64 t.n, .slice w0.2.1 w0.2.2.2.length w0.2.2.1], blk b_2 30 [.int .i64 0, .int .i64 0, .slice none 0 0], blk b_1 30 [.int .i64 t.kind, .int .i64 t.n, .slice A t.kids.length c], rd kTree A c t.kids]) (fun w0 => w0.1 ≤ t.kids.length ∧ w0.2.2.2.length = w0.1 ∧ SortedTL (t.kids.take w0.1) w0.2.2.2) (fun w0 => t.kids.length - w0.1) (0, none, 0, []) ⟨Nat.zero_le _, rfl, .nil⟩ ⟨rfl, rfl, rfl, rfl, rfl, trivial⟩ (.take 0 rfl (.take 0 rfl (.take 0 rfl (.take 0 rfl (.use 0 rfl (fun _ h => h) (.nil)))))) ?_
  rintro ⟨k, A1, c1, acc⟩ ⟨hk, hal, hacc⟩
  try dsimp only at hk hal hacc
  show WC _ _ _ _ _ _ [(2, .pointer (some ⟨b_2, 0, none⟩)), (3, .pointer (some ⟨b_3, 0, none⟩)), (12, .slice A t.kids.length c), (13, .int .i64 ((t.kids.length : Nat) : Int)), (14, .int .i64 ((k : Nat) : Int))] [row kTree 30 A1 c1 acc, blk b_3 30 [.int .i64 t.kind, .int .i64 t.n, .slice A1 acc.length c1], blk b_2 30 [.int .i64 0, .int .i64 0, .slice none 0 0], blk b_1 30 [.int .i64 t.kind, .int .i64 t.n, .slice A t.kids.length c], rd kTree A c t.kids]
  refine WC.seq ?_
  refine WC.region ?_
  refine WL.quiet (Qt.lss rfl rfl) rfl rfl ?_
  refine WL.nil ?_
  refine WX.next ?_
  refine WC.seq ?_
  refine WC.condD rfl (fun hc_1 => ?_) (fun hc_1 => ?_)
  ·
    refine WC.skip ?_
    refine WX.next ?_
    refine WC.seq ?_
    refine WC.block ?_
    refine WC.seq ?_
    have hnk := nodes_kids t
    refine WC.region ?_
    have hj_1 : k < t.kids.length := by omega
    refine WL.learn 4 rfl (rd_at k hj_1 (vTree _)) ?_
    rintro ⟨p_1, ⟨A_1, c_1⟩⟩ hA_1
    refine WL.quiet (Qt.indexAddrE k hA_1 Tryd.underlying28 ti30 rfl rfl (by first | assumption | omega)) rfl rfl ?_
    refine WL.quiet (Qt.loadCA (p := p_1.add (k * 3)) (o := 0) 0 rfl ta30 ti30 rfl rfl) rfl rfl ?_
    refine WL.loud (.nil) (Ld.alloc ti30 rfl) trivial rfl ?_
    rintro _ _ ⟨b_4, rfl, rfl⟩
    refine WL.loud (.take 0 rfl (.nil)) (Ld.store ti30 rfl rfl rfl rfl rfl rfl) trivial rfl ?_
    rintro _ _ rfl
    refine WL.nil ?_
    refine WX.next ?_
    refine WC.draw (Γq := [blk b_4 30 [.int .i64 (t.kids[k].kind), .int .i64 (t.kids[k].n), .slice A_1 (t.kids[k].kids.length) c_1], cellsAt (p_1.add (k * 3)) [.int .i64 (t.kids[k].kind), .int .i64 (t.kids[k].n), .slice A_1 (t.kids[k].kids.length) c_1], rd kTree A_1 c_1 (t.kids[k].kids), blk b_3 30 [.int .i64 t.kind, .int .i64 t.n, .slice A1 acc.length c1], blk b_2 30 [.int .i64 0, .int .i64 0, .slice none 0 0], blk b_1 30 [.int .i64 t.kind, .int .i64 t.n, .slice A t.kids.length c], rd kTree A c t.kids]) [0, 1, 2, 3, 4, 5] mixed ?_
    refine WA.take (by kernel_rfl) 0 (by decide) rfl (by kernel_rfl) (by kernel_rfl) (by kernel_rfl) (Calm.inBlock (Calm.then (Calm.then (Calm.inBlock (Calm.then (calm_FQ _ _)))))) (Qt.fieldAddrB tf30_2 rfl) trivial rfl (.take 0 rfl (.use 0 rfl (fun _ h => h) (.use 1 rfl (fun _ h => h) (.take 3 rfl (.take 3 rfl (.take 3 rfl (.use 3 rfl (fun _ h => h) (.nil)))))))) ?_
    refine WA.take (by kernel_rfl) 1 (by decide) rfl (by kernel_rfl) (by kernel_rfl) (by kernel_rfl) (Calm.inBlock (Calm.then (Calm.then (Calm.inBlock (Calm.then (calm_FQ _ _)))))) (Qt.loadB 3 rfl ta28 rfl rfl) trivial rfl (.take 0 rfl (.use 0 rfl (fun _ h => h) (.use 1 rfl (fun _ h => h) (.take 3 rfl (.take 3 rfl (.take 3 rfl (.use 3 rfl (fun _ h => h) (.nil)))))))) ?_
    refine WA.take (by kernel_rfl) 2 (by decide) rfl (by kernel_rfl) (by kernel_rfl) (by kernel_rfl) (Calm.inBlock (Calm.then (Calm.then (Calm.inBlock (Calm.then (calm_FQ _ _)))))) (Qt.loadBA 0 rfl ta30 ti30 rfl rfl) trivial rfl (.take 0 rfl (.use 0 rfl (fun _ h => h) (.use 1 rfl (fun _ h => h) (.take 3 rfl (.take 3 rfl (.take 3 rfl (.use 3 rfl (fun _ h => h) (.nil)))))))) ?_
    refine WA.one 3 (by kernel_rfl) ?_
    refine WO.call rfl (.use 2 rfl (fun _ h => h) (.nil)) (Cl.func cb15 rfl) (ih (t.kids[k]) _ _ (by have := kid_size t k (by omega); omega) (ok_kid hok k (by omega)) (by have := nodes_kid t k (by omega); omega)) trivial rfl (by rintro _ _ ⟨u_1, A_2, c_2, rfl, rfl, hs_1⟩; exact ⟨_, (.take 1 rfl (.use 1 rfl (fun _ h => h) (.use 2 rfl (fun _ h => h) (.take 4 rfl (.take 4 rfl (.take 4 rfl (.use 4 rfl (fun _ h => h) (.nil))))))))⟩) ?_
    rintro _ _ ⟨u_1, A_2, c_2, rfl, rfl, hs_1⟩
    refine WA.one 4 (by kernel_rfl) ?_
    refine WO.loud rfl (.nil) (Ld.buildSlice (zs := [.int .i64 0, .int .i64 0, .slice none 0 0]) Tryd.underlying28 ti30 rfl rfl (by kernel_rfl) rfl rfl) trivial rfl (by rintro _ _ ⟨b_5, rfl, rfl⟩; exact ⟨_, (.take 2 rfl (.use 2 rfl (fun _ h => h) (.use 3 rfl (fun _ h => h) (.take 5 rfl (.take 5 rfl (.take 5 rfl (.use 5 rfl (fun _ h => h) (.nil))))))))⟩) ?_
    rintro _ _ ⟨b_5, rfl, rfl⟩
    refine WA.one 5 (by kernel_rfl) ?_
    refine WO.loud rfl (.take 5 rfl (.take 0 rfl (.use 0 rfl (fun _ h => h) (.nil)))) (Ld.append1 (e := kTree) (xs := acc) u_1 Tryd.underlying28 ti30 rfl (by decide) (by decide) rfl rfl (by first | omega | (simp; omega)) (fun S w h => mkTreeE (h _ (by simp)))) trivial rfl (by rintro _ _ ⟨A_3, c_3, rfl, rfl⟩; exact ⟨_, (.take 2 rfl (.use 2 rfl (fun _ h => h) (.use 3 rfl (fun _ h => h) (.take 4 rfl (.take 4 rfl (.take 4 rfl (.use 4 rfl (fun _ h => h) (.nil))))))))⟩) ?_
    rintro _ _ ⟨A_3, c_3, rfl, rfl⟩
    refine WA.phase (K' := [0, 1, 2, 3, 4, 5, 6]) (Γq' := [row kTree 30 A_3 c_3 (acc ++ [u_1]), rd kTree A_2 c_2 u_1.kids, blk b_4 30 [.int .i64 (t.kids[k].kind), .int .i64 (t.kids[k].n), .slice A_1 (t.kids[k].kids.length) c_1], cellsAt (p_1.add (k * 3)) [.int .i64 (t.kids[k].kind), .int .i64 (t.kids[k].n), .slice A_1 (t.kids[k].kids.length) c_1], rd kTree A_1 c_1 (t.kids[k].kids), blk b_3 30 [.int .i64 t.kind, .int .i64 t.n, .slice A1 acc.length c1], blk b_2 30 [.int .i64 0, .int .i64 0, .slice none 0 0], blk b_1 30 [.int .i64 t.kind, .int .i64 t.n, .slice A t.kids.length c], rd kTree A c t.kids]) (by kernel_rfl) ?_
    refine WA.take (by kernel_rfl) 6 (by decide) rfl (by kernel_rfl) (by kernel_rfl) (by kernel_rfl) (Calm.inBlock (Calm.then (Calm.then (Calm.inBlock (Calm.then (calm_FQ _ _)))))) (Qt.fieldAddrB tf30_2 rfl) trivial rfl (.take 0 rfl (.use 0 rfl (fun _ h => h) (.take 1 rfl (.use 1 rfl (fun _ h => h) (.use 2 rfl (fun _ h => h) (.take 3 rfl (.take 3 rfl (.take 3 rfl (.use 3 rfl (fun _ h => h) (.nil)))))))))) ?_
    refine WA.phase (K' := [0, 1, 2, 3, 4, 5, 6, 7]) (Γq' := [row kTree 30 A_3 c_3 (acc ++ [u_1]), rd kTree A_2 c_2 u_1.kids, blk b_4 30 [.int .i64 (t.kids[k].kind), .int .i64 (t.kids[k].n), .slice A_1 (t.kids[k].kids.length) c_1], cellsAt (p_1.add (k * 3)) [.int .i64 (t.kids[k].kind), .int .i64 (t.kids[k].n), .slice A_1 (t.kids[k].kids.length) c_1], rd kTree A_1 c_1 (t.kids[k].kids), blk b_2 30 [.int .i64 0, .int .i64 0, .slice none 0 0], blk b_1 30 [.int .i64 t.kind, .int .i64 t.n, .slice A t.kids.length c], rd kTree A c t.kids]) (by kernel_rfl) ?_
    refine WA.one 7 (by kernel_rfl) ?_
    refine WO.loud rfl (.take 5 rfl (.nil)) (Ld.store ti28 rfl rfl rfl rfl rfl rfl) trivial rfl (by rintro _ _ rfl; exact ⟨_, (.take 1 rfl (.use 1 rfl (fun _ h => h) (.take 2 rfl (.use 2 rfl (fun _ h => h) (.use 3 rfl (fun _ h => h) (.take 4 rfl (.take 4 rfl (.use 4 rfl (fun _ h => h) (.nil)))))))))⟩) ?_
    rintro _ _ rfl
    refine WA.done (by kernel_rfl) ?_
    refine WX.block_end ?_
    refine WX.next ?_
    refine WC.region ?_
    refine WL.quiet (Qt.add rfl rfl (by omega)) rfl rfl ?_
    refine WL.quiet (Qt.move rfl) rfl rfl ?_
    refine WL.nil ?_
    exact WX.back (k + 1, A_3, c_3, acc ++ [u_1]) ⟨by omega, by simp [hal], hacc.take_succ (by omega) hs_1⟩ (by first | omega | (dsimp only; omega) | (simp; omega)) ⟨rfl, rfl, rfl, rfl, rfl, trivial⟩ (.take 1 rfl (.take 0 rfl (.take 4 rfl (.take 4 rfl (.use 4 rfl (fun _ h => h) (.nil))))))
  ·
    refine WC.exit ?_
    refine WX.pass_exit ?_
    refine WX.pass_exit ?_
    refine WX.block_exit ?_
    refine WX.next ?_
    refine WC.seq ?_
    refine WC.seq ?_
    have hend : SortedTL t.kids acc := by rw [List.take_of_length_le (show t.kids.length ≤ k by omega)] at hacc; exact hacc
    refine WC.region ?_
    refine WL.quiet (Qt.fieldAddrB tf30_0 rfl) rfl rfl ?_
    refine WL.quiet (Qt.loadB 1 rfl ta3 rfl rfl) rfl rfl ?_
    refine WL.quiet (Qt.eql rfl rfl) rfl rfl ?_
    refine WL.nil ?_
    refine WX.next ?_
    refine WC.condD rfl (fun hc_2 => ?_) (fun hc_2 => ?_)
    ·
      have hin := sorted_in hok (by omega) hnd hend
      refine WC.turn (.take 0 rfl (.nil)) (row_open (hin.1)) ?_
      rintro _ ⟨b_6, cur_1, rfl, rfl⟩
      refine WC.region ?_
      refine WL.quiet (Qt.fieldAddrB tf30_2 rfl) rfl rfl ?_
      refine WL.quiet (Qt.loadB 1 rfl ta28 rfl rfl) rfl rfl ?_
      refine WL.call (.take 0 rfl (.nil)) (Cl.func cb28 rfl) (Spec.sortFunc zsort kTree leastT Tryd.isAgg30 Tryd.sizeOf30 cb29 hin.1 hin.2.1 (compares_tree fun a b ha hb A B c d => cmpTreesW a b A B c d (hin.2.2 a ha) (hin.2.2 b hb))) trivial rfl ?_
      rintro _ _ ⟨ys_1, cur_2, rfl, rfl, hp_1, hso_1⟩
      refine WL.nil ?_
      refine WX.next ?_
      refine WC.seq ?_
      refine WC.region ?_
      refine WL.quiet (Qt.loadBA 1 rfl ta30 ti30 rfl rfl) rfl rfl ?_
      refine WL.loud (.take 2 rfl (.nil)) (Ld.store ti30 rfl rfl rfl rfl rfl rfl) trivial rfl ?_
      rintro _ _ rfl
      refine WL.nil ?_
      refine WX.next ?_
      refine WC.ret ?_
      rw [← hp_1.length_eq]
      refine WX.turn (.take 1 rfl (.nil)) (row_close) ?_
      rintro _ rfl
      refine WX.turn (.take 0 rfl (.nil)) (freeze_row) ?_
      rintro _ rfl
      refine WX.retC 1 (.use 0 rfl (fun _ h => h) (.nil)) rfl rfl rfl ta30 ti30 rfl ?_
      exact ⟨.mk t.kind t.n ys_1, _, _, rfl, rfl, by have h := SortedT.mk (n := t.n) (k := t.kind) hend (fun _ => ⟨hp_1, hso_1⟩) (fun h => absurd (by omega) h); rwa [PT.eta] at h⟩
    ·
      refine WC.skip ?_
      refine WX.next ?_
      refine WC.seq ?_
      refine WC.region ?_
      refine WL.quiet (Qt.loadBA 1 rfl ta30 ti30 rfl rfl) rfl rfl ?_
      refine WL.loud (.take 2 rfl (.nil)) (Ld.store ti30 rfl rfl rfl rfl rfl rfl) trivial rfl ?_
      rintro _ _ rfl
      refine WL.nil ?_
      refine WX.next ?_
      refine WC.ret ?_
      refine WX.turn (.take 1 rfl (.nil)) (freeze_row) ?_
      rintro _ rfl
      refine WX.retC 1 (.use 0 rfl (fun _ h => h) (.nil)) rfl rfl rfl ta30 ti30 rfl ?_
      exact ⟨.mk t.kind t.n acc, _, _, rfl, rfl, by have h := SortedT.mk (n := t.n) (k := t.kind) hend (fun h => absurd h (by omega)) (fun _ => rfl); rwa [PT.eta] at h⟩
theorem sortedW (t : PT) (A : Option Addr) (c : Nat) (hok : t.ok) (hnd : t.nodes ≤ 300000) : Spec μ Tryd.prog 15 #[.agg [.int .i64 t.kind, .int .i64 t.n, .slice A t.kids.length c].toArray] [rd kTree A c t.kids] fun v Δ => ∃ u A1 c1, v = .agg #[.int .i64 u.kind, .int .i64 u.n, .slice A1 u.kids.length c1] ∧ Δ = [rd kTree A1 c1 u.kids] ∧ SortedT t u := sortedW_ih _ t A c (Nat.lt_succ_self _) hok hnd

end Go.Proofs.YtkhmbhdlfpalkaaDoor.Sep

/- A walk, printed by gen.py out of hints. -/
namespace Go.Proofs.YtkhmbhdlfpalkaaDoor.Sep
open Go
variable {μ : Prop}
theorem reduceW (cs : List Contact) (lb jp : ByteArray) (A B : Option Addr) (c nB d : Nat) (hlen : cs.length ≤ 100000) : Spec μ Tryd.prog 6 #[.agg [.string lb, .slice A cs.length c, .slice B nB d, .string jp].toArray] [rd kContact A c cs] fun v Δ => ∃ (e : Int) (u : PT) (A1 : Option Addr) (c1 : Nat), v = .tuple #[.agg #[.int .i64 u.kind, .int .i64 u.n, .slice A1 u.kids.length c1], .int .i64 e] ∧ Δ = [rd kTree A1 c1 u.kids] ∧ ((e = 0 ∧ WF cs ∧ RedOk cs u) ∨ (e ≠ 0 ∧ u = .mk 0 0 [] ∧ (WF cs → e = 14 ∧ RedBad cs))) := by
  refine Spec.of_body (n := 69) Tryd.func6 rfl rfl rfl fun w0 S0 O0 => ?_
  show WC _ _ _ _ _ _ [(0, .agg [.string lb, .slice A cs.length c, .slice B nB d, .string jp].toArray)] [rd kContact A c cs]
  refine WC.learn (Z := Unit) (Δ := fun _ => []) (φ := fun _ => cs.length ≤ c ∧ c ≤ 9223372036854775807) 0 rfl (fun S w h => ⟨(), rd_bounds h, nofacts⟩) ?_
  rintro _ ⟨hb_1, hb_2⟩
  refine WC.seq ?_
  refine WC.region ?_
  refine WL.loud (.nil) (Ld.box rfl rfl) trivial rfl ?_
  rintro _ _ ⟨b_1, rfl, rfl⟩
  refine WL.loud (.nil) (Ld.alloc ti30 rfl) trivial rfl ?_
  rintro _ _ ⟨b_2, rfl, rfl⟩
  refine WL.quiet (Qt.assign rfl) rfl rfl ?_
  refine WL.nil ?_
  refine WX.next ?_
  refine WC.seq ?_
  refine WC.seq ?_
  refine WC.region ?_
  refine WL.quiet (Qt.loadBA 1 rfl ta25 ti25 rfl rfl) rfl rfl ?_
  refine WL.call (.use 2 rfl (fun _ h => h) (.nil)) (Cl.func cb12 rfl) (flowCheckW cs _ _ _ _ _ _ _ hlen) trivial rfl ?_
  rintro _ _ ⟨e_1, rfl, rfl, hwf_1⟩
  refine WL.quiet (Qt.assign rfl) rfl rfl ?_
  refine WL.nil ?_
  refine WX.next ?_
  refine WC.seq ?_
  refine WC.region ?_
  refine WL.quiet (Qt.move rfl) rfl rfl ?_
  refine WL.quiet (Qt.neq rfl rfl) rfl rfl ?_
  refine WL.nil ?_
  refine WX.next ?_
  refine WC.condD rfl (fun hc_1 => ?_) (fun hc_1 => ?_)
  ·
    refine WC.seq ?_
    refine WC.region ?_
    refine WL.quiet (Qt.build tp30 ti30 rfl rfl rfl) rfl rfl ?_
    refine WL.quiet (Qt.move rfl) rfl rfl ?_
    refine WL.loud (.take 0 rfl (.nil)) (Ld.store ti30 rfl rfl rfl rfl rfl rfl) trivial rfl ?_
    rintro _ _ rfl
    refine WL.quiet (Qt.assign rfl) rfl rfl ?_
    refine WL.nil ?_
    refine WX.next ?_
    refine WC.ret ?_
    refine WX.pass_ret ?_
    refine WX.turn (.nil) (nil_row (e := kTree) (t := 30)) ?_
    rintro _ rfl
    refine WX.turn (.take 0 rfl (.nil)) (freeze_row) ?_
    rintro _ rfl
    refine WX.retC1 1 (.use 0 rfl (fun _ h => h) (.nil)) rfl rfl rfl rfl ta30 ti30 rfl ?_
    exact ⟨_, .mk 0 0 [], _, _, rfl, rfl, .inr ⟨(by simpa using hc_1), rfl, fun h => absurd (hwf_1.1 h) (by simpa using hc_1)⟩⟩
  ·
    refine WC.skip ?_
    refine WX.next ?_
    refine WC.seq ?_
    refine WC.region ?_
    refine WL.quiet (Qt.assign rfl) rfl rfl ?_
    refine WL.nil ?_
    refine WX.next ?_
    refine WC.seq ?_
    refine WC.seq ?_
    refine WC.region ?_
    refine WL.quiet (Qt.fieldAddrB tf25_1 rfl) rfl rfl ?_
    refine WL.quiet (Qt.loadB 1 rfl ta22 rfl rfl) rfl rfl ?_
    refine WL.quiet (Qt.lenS Tryd.underlying22 rfl) rfl rfl ?_
    refine WL.quiet (Qt.move rfl) rfl rfl ?_
    refine WL.nil ?_
    refine WX.next ?_
    refine WC.block ?_
    refine WC.turn (.nil) (nil_row (e := kEdge) (t := 50)) ?_
    rintro _ rfl
    refine WC.loop (fun w0 : Nat × (Option Addr) × Nat × (List Edge) => [(2, .pointer (some ⟨b_2, 0, none⟩)), (3, .int .i64 0), (5, .slice w0.2.1 w0.2.2.2.length w0.2.2.1), (18, .slice A cs.length c), (19, .int .i64 ((cs.length : Nat) : Int)), (20, .int .i64 ((w0.1 : Nat) : Int))]) (fun w0 => [row kEdge 50 w0.2.1 w0.2.2.1 w0.2.2.2, blk b_2 30 [.int .i64 0, .int .i64 0, .slice none 0 0], blk b_1 25 [.string lb, .slice A cs.length c, .slice B nB d, .string jp], rd kContact A c cs]) (fun w0 => w0.1 ≤ cs.length ∧ w0.2.2.2 = initE cs w0.1) (fun w0 => cs.length - w0.1) (0, none, 0, []) ⟨Nat.zero_le _, rfl⟩ ⟨rfl, rfl, rfl, rfl, rfl, rfl, trivial⟩ (.take 0 rfl (.take 0 rfl (.take 0 rfl (.use 0 rfl (fun _ h => h) (.nil))))) ?_
    rintro ⟨k, A1, c1, l⟩ ⟨hk, hl⟩
    try dsimp only at hk hl
    have hll := initE_len cs k hk
    rw [← hl] at hll
    show WC _ _ _ _ _ _ [(2, .pointer (some ⟨b_2, 0, none⟩)), (3, .int .i64 0), (5, .slice A1 l.length c1), (18, .slice A cs.length c), (19, .int .i64 ((cs.length : Nat) : Int)), (20, .int .i64 ((k : Nat) : Int))] [row kEdge 50 A1 c1 l, blk b_2 30 [.int .i64 0, .int .i64 0, .slice none 0 0], blk b_1 25 [.string lb, .slice A cs.length c, .slice B nB d, .string jp], rd kContact A c cs]
    refine WC.seq ?_
    refine WC.region ?_
    refine WL.quiet (Qt.lss rfl rfl) rfl rfl ?_
    refine WL.nil ?_
    refine WX.next ?_
    refine WC.seq ?_
    refine WC.condD rfl (fun hc_2 => ?_) (fun hc_2 => ?_)
    ·
      refine WC.skip ?_
      refine WX.next ?_
      refine WC.seq ?_
      refine WC.block ?_
      refine WC.seq ?_
      refine WC.region ?_
      refine WL.quiet (Qt.move rfl) rfl rfl ?_
      have hj_1 : k < cs.length := by omega
      refine WL.learn 3 rfl (rd_at k hj_1 (vContact _)) ?_
      rintro ⟨p_1, ⟨⟩⟩ hA_1
      refine WL.quiet (Qt.indexAddrE k hA_1 Tryd.underlying22 ti42 rfl rfl (by first | assumption | omega)) rfl rfl ?_
      refine WL.quiet (Qt.loadCA (p := p_1.add (k * 5)) (o := 0) 0 rfl ta42 ti42 rfl rfl) rfl rfl ?_
      refine WL.loud (.nil) (Ld.alloc ti42 rfl) trivial rfl ?_
      rintro _ _ ⟨b_3, rfl, rfl⟩
      refine WL.quiet (Qt.assign rfl) rfl rfl ?_
      refine WL.loud (.take 0 rfl (.nil)) (Ld.store ti42 rfl rfl rfl rfl rfl rfl) trivial rfl ?_
      rintro _ _ rfl
      refine WL.nil ?_
      refine WX.next ?_
      refine WC.region ?_
      refine WL.quiet (Qt.move rfl) rfl rfl ?_
      refine WL.quiet (Qt.fieldAddrB tf42_2 rfl) rfl rfl ?_
      refine WL.quiet (Qt.loadB 0 rfl ta9 rfl rfl) rfl rfl ?_
      refine WL.quiet (Qt.fieldAddrB tf42_3 rfl) rfl rfl ?_
      refine WL.quiet (Qt.loadB 0 rfl ta9 rfl rfl) rfl rfl ?_
      refine WL.quiet (Qt.build tp48 ti48 rfl rfl rfl) rfl rfl ?_
      refine WL.quiet (Qt.move rfl) rfl rfl ?_
      refine WL.quiet (Qt.build tp30 ti30 rfl rfl rfl) rfl rfl ?_
      refine WL.quiet (Qt.build tp50 ti50 rfl rfl rfl) rfl rfl ?_
      refine WL.loud (.nil) (Ld.buildSlice (zs := [.string (⟨#[]⟩ : ByteArray), .string (⟨#[]⟩ : ByteArray), .int .i64 0, .int .i64 0, .slice none 0 0]) Tryd.underlying46 ti50 rfl rfl (by kernel_rfl) rfl rfl) trivial rfl ?_
      rintro _ _ ⟨b_4, rfl, rfl⟩
      refine WL.loud (.take 3 rfl (.take 0 rfl (.nil))) (Ld.append1 (e := kEdge) (xs := l) ⟨cs[k].frm, cs[k].to, .mk 0 ((k : Nat) : Int) []⟩ Tryd.underlying46 ti50 rfl (by decide) (by decide) rfl rfl (by first | omega | (simp; omega)) (fun S w h => mkEdgeNil)) trivial rfl ?_
      rintro _ _ ⟨A_1, c_1, rfl, rfl⟩
      refine WL.quiet (Qt.assign rfl) rfl rfl ?_
      refine WL.nil ?_
      refine WX.block_end ?_
      refine WX.next ?_
      refine WC.region ?_
      refine WL.quiet (Qt.add rfl rfl (by omega)) rfl rfl ?_
      refine WL.quiet (Qt.move rfl) rfl rfl ?_
      refine WL.nil ?_
      exact WX.back (k + 1, A_1, c_1, l ++ [⟨cs[k].frm, cs[k].to, .mk 0 ((k : Nat) : Int) []⟩]) ⟨by omega, by rw [initE_step cs k (by omega), ← hl]⟩ (by first | omega | (dsimp only; omega) | (simp; omega)) ⟨rfl, rfl, rfl, rfl, rfl, rfl, trivial⟩ (.take 0 rfl (.take 2 rfl (.take 2 rfl (.use 2 rfl (fun _ h => h) (.nil)))))
    ·
      refine WC.exit ?_
      refine WX.pass_exit ?_
      refine WX.pass_exit ?_
      refine WX.block_exit ?_
      refine WX.next ?_
      refine WC.seq ?_
      refine WC.seq ?_
      have hWF := hwf_1.2 (by omega); have hpos := hWF.1
      have hend : l = initE cs cs.length := by rw [hl, show k = cs.length from by omega]
      refine WC.turn (.take 0 rfl (.nil)) (row_open (by omega)) ?_
      rintro _ ⟨b_5, cur_1, rfl, rfl⟩
      refine WC.region ?_
      refine WL.quiet (Qt.assign rfl) rfl rfl ?_
      refine WL.nil ?_
      refine WX.next ?_
      refine WC.block ?_
      refine WC.loop (fun w0 : (List Edge) × (List Value) × Bool => [(2, .pointer (some ⟨b_2, 0, none⟩)), (3, .int .i64 0), (5, .slice (some ⟨b_5, 0, none⟩) w0.1.length c1), (8, .bool w0.2.2)]) (fun w0 => [rowL kEdge 50 b_5 c1 w0.1 w0.2.1, blk b_2 30 [.int .i64 0, .int .i64 0, .slice none 0 0], blk b_1 25 [.string lb, .slice A cs.length c, .slice B nB d, .string jp], rd kContact A c cs]) (fun w0 => RInv cs w0.1 ∧ (w0.2.2 = false → Stuck w0.1)) (fun w0 => 2 * w0.1.length + if w0.2.2 = true then 1 else 0) (l, cur_1, true) ⟨by rw [hend]; exact RInv.init cs, fun h => nomatch h⟩ ⟨rfl, rfl, rfl, rfl, trivial⟩ (.take 0 rfl (.take 0 rfl (.take 0 rfl (.use 0 rfl (fun _ h => h) (.nil))))) ?_
      rintro ⟨ys, cu, goes⟩ ⟨hinv, hstk⟩
      try dsimp only at hinv hstk
      have hnb := hinv.2.2
      show WC _ _ _ _ _ _ [(2, .pointer (some ⟨b_2, 0, none⟩)), (3, .int .i64 0), (5, .slice (some ⟨b_5, 0, none⟩) ys.length c1), (8, .bool goes)] [rowL kEdge 50 b_5 c1 ys cu, blk b_2 30 [.int .i64 0, .int .i64 0, .slice none 0 0], blk b_1 25 [.string lb, .slice A cs.length c, .slice B nB d, .string jp], rd kContact A c cs]
      refine WC.seq ?_
      refine WC.seq ?_
      refine WC.region ?_
      refine WL.quiet (Qt.move rfl) rfl rfl ?_
      refine WL.nil ?_
      refine WX.next ?_
      refine WC.cond rfl (fun hc_3 => ?_) (fun hc_3 => ?_)
      ·
        refine WC.skip ?_
        refine WX.next ?_
        refine WC.block ?_
        refine WC.seq ?_
        refine WC.region ?_
        refine WL.quiet (Qt.assign rfl) rfl rfl ?_
        refine WL.quiet (Qt.assign rfl) rfl rfl ?_
        refine WL.nil ?_
        refine WX.next ?_
        refine WC.seq ?_
        refine WC.region ?_
        refine WL.quiet (Qt.move rfl) rfl rfl ?_
        refine WL.call (.take 0 rfl (.nil)) (Cl.func cb13 rfl) (parallelW ys _ _ _ (by omega)) trivial rfl ?_
        rintro _ _ ⟨ys_1, cur_2, r_1, rfl, rfl, hpar_1⟩
        refine WL.quiet (Qt.move rfl) rfl rfl ?_
        refine WL.quiet (Qt.extract rfl rfl) rfl rfl ?_
        refine WL.quiet (Qt.extract rfl rfl) rfl rfl ?_
        refine WL.quiet (Qt.assign rfl) rfl rfl ?_
        refine WL.quiet (Qt.assign rfl) rfl rfl ?_
        refine WL.nil ?_
        refine WX.next ?_
        refine WC.seq ?_
        have hinv1 := hinv.par hpar_1
        have hnb1 := hinv1.2.2
        refine WC.region ?_
        refine WL.quiet (Qt.move rfl) rfl rfl ?_
        refine WL.call (.take 0 rfl (.nil)) (Cl.func cb14 rfl) (seriesW ys_1 _ _ _ (by omega)) trivial rfl ?_
        rintro _ _ ⟨ys_2, cur_3, r_2, rfl, rfl, hser_1⟩
        refine WL.quiet (Qt.move rfl) rfl rfl ?_
        refine WL.quiet (Qt.extract rfl rfl) rfl rfl ?_
        refine WL.quiet (Qt.extract rfl rfl) rfl rfl ?_
        refine WL.quiet (Qt.assign rfl) rfl rfl ?_
        refine WL.quiet (Qt.assign rfl) rfl rfl ?_
        refine WL.nil ?_
        refine WX.next ?_
        refine WC.region ?_
        refine WL.quiet (Qt.move rfl) rfl rfl ?_
        refine WL.quiet (Qt.move rfl) rfl rfl ?_
        refine WL.splitB 49 rfl rfl (fun hg_1 => ?_) (fun hg_1 => ?_)
        ·
          refine WL.skipG 1 false true rfl 49 rfl rfl rfl rfl ?_
          refine WL.quiet (Qt.pickT rfl rfl) rfl rfl ?_
          refine WL.quiet (Qt.assign rfl) rfl rfl ?_
          refine WL.nil ?_
          refine WX.block_end ?_
          exact WX.back (ys_2, cur_3, true) ⟨(hinv.par hpar_1).ser hser_1, fun h => stuck_of2 hpar_1 hser_1 (by simp [hg_1]) h⟩ (by dsimp only; rw [if_pos hc_3]; exact round_less2 hpar_1 hser_1 (by simp [hg_1])) ⟨rfl, rfl, rfl, rfl, trivial⟩ (.take 0 rfl (.take 0 rfl (.take 0 rfl (.use 0 rfl (fun _ h => h) (.nil)))))
        ·
          refine WL.quietG 1 false rfl 49 rfl rfl (Qt.move rfl) rfl ?_
          refine WL.quiet (Qt.pickF rfl rfl) rfl rfl ?_
          refine WL.quiet (Qt.assign rfl) rfl rfl ?_
          refine WL.nil ?_
          refine WX.block_end ?_
          exact WX.back (ys_2, cur_3, r_2) ⟨(hinv.par hpar_1).ser hser_1, fun h => stuck_of2 hpar_1 hser_1 (by simp [hg_1]) h⟩ (by dsimp only; rw [if_pos hc_3]; exact round_less2 hpar_1 hser_1 (by simp [hg_1])) ⟨rfl, rfl, rfl, rfl, trivial⟩ (.take 0 rfl (.take 0 rfl (.take 0 rfl (.use 0 rfl (fun _ h => h) (.nil)))))
      ·
        refine WC.exit ?_
        refine WX.pass_exit ?_
        refine WX.pass_exit ?_
        refine WX.block_exit ?_
        refine WX.next ?_
        refine WC.seq ?_
        refine WC.cut (fun _ : Unit => [(2, .pointer (some ⟨b_2, 0, none⟩)), (3, .int .i64 0), (5, .slice (some ⟨b_5, 0, none⟩) ys.length c1), (62, .bool (notOne ys))]) (fun _ => [rowL kEdge 50 b_5 c1 ys cu, blk b_2 30 [.int .i64 0, .int .i64 0, .slice none 0 0], blk b_1 25 [.string lb, .slice A cs.length c, .slice B nB d, .string jp], rd kContact A c cs]) (fun _ => True) ?_ ?_
        ·
          refine WC.region ?_
          refine WL.quiet (Qt.move rfl) rfl rfl ?_
          refine WL.quiet (Qt.lenS Tryd.underlying46 rfl) rfl rfl ?_
          refine WL.quiet (Qt.neq rfl rfl) rfl rfl ?_
          refine WL.quiet (Qt.move rfl) rfl rfl ?_
          refine WL.splitD 55 rfl rfl (fun hg_2 => ?_) (fun hg_2 => ?_)
          ·
            refine WL.skipG 3 false true rfl 55 rfl rfl rfl rfl ?_
            refine WL.skipG 3 false true rfl 55 rfl rfl rfl rfl ?_
            refine WL.skipG 3 false true rfl 55 rfl rfl rfl rfl ?_
            refine WL.skipG 3 false true rfl 55 rfl rfl rfl rfl ?_
            refine WL.skipG 3 false true rfl 55 rfl rfl rfl rfl ?_
            refine WL.skipG 3 false true rfl 55 rfl rfl rfl rfl ?_
            refine WL.quiet (Qt.pickT rfl rfl) rfl rfl ?_
            refine WL.nil ?_
            exact WX.cut () trivial ⟨rfl, rfl, rfl, (by rw [show notOne ys = true from notOne_len (by omega)]; rfl), trivial⟩ (.take 0 rfl (.take 0 rfl (.take 0 rfl (.use 0 rfl (fun _ h => h) (.nil)))))
          ·
            refine WL.quietG 3 false rfl 55 rfl rfl (Qt.move rfl) rfl ?_
            have hj_2 : 0 < ys.length := by omega
            refine WL.learn 0 rfl (rowL_at 0 hj_2 (vEdge _)) ?_
            rintro ⟨A_2, c_2⟩ hel_1
            refine WL.quietG 3 false rfl 55 rfl rfl (Qt.indexAddrB 0 Tryd.underlying46 ti50 rfl rfl (by first | assumption | omega)) rfl ?_
            refine WL.quietG 3 false rfl 55 rfl rfl (Qt.fieldAddrB tf50_0 rfl) rfl ?_
            refine WL.quietG 3 false rfl 55 rfl rfl (Qt.loadRA (j := 0) (o := 0) 1 rfl hel_1 ta48 ti48 rfl rfl) rfl ?_
            refine WL.quietG 3 false rfl 55 rfl rfl (Qt.build tp48 ti48 rfl rfl rfl) rfl ?_
            refine WL.quietG 3 false rfl 55 rfl rfl (Qt.pairNeq pe48 rfl rfl) rfl ?_
            refine WL.quiet (Qt.pickF rfl rfl) rfl rfl ?_
            refine WL.nil ?_
            exact WX.cut () trivial ⟨rfl, rfl, rfl, (by rw [show notOne ys = (decide (¬ ((ys[0].frm) = (⟨#[76]⟩ : ByteArray) ∧ (ys[0].to) = (⟨#[82]⟩ : ByteArray)))) from notOne_at (by omega) (by omega)]; rfl), trivial⟩ (.take 1 rfl (.take 1 rfl (.take 1 rfl (.use 1 rfl (fun _ h => h) (.nil)))))
        ·
          intro _ _
          show WC _ _ _ _ _ _ [(2, .pointer (some ⟨b_2, 0, none⟩)), (3, .int .i64 0), (5, .slice (some ⟨b_5, 0, none⟩) ys.length c1), (62, .bool (notOne ys))] [rowL kEdge 50 b_5 c1 ys cu, blk b_2 30 [.int .i64 0, .int .i64 0, .slice none 0 0], blk b_1 25 [.string lb, .slice A cs.length c, .slice B nB d, .string jp], rd kContact A c cs]
          refine WC.cond rfl (fun hc_4 => ?_) (fun hc_4 => ?_)
          ·
            refine WC.seq ?_
            refine WC.region ?_
            refine WL.quiet (Qt.build tp30 ti30 rfl rfl rfl) rfl rfl ?_
            refine WL.loud (.take 1 rfl (.nil)) (Ld.store ti30 rfl rfl rfl rfl rfl rfl) trivial rfl ?_
            rintro _ _ rfl
            refine WL.quiet (Qt.assign rfl) rfl rfl ?_
            refine WL.nil ?_
            refine WX.next ?_
            refine WC.ret ?_
            refine WX.pass_ret ?_
            refine WX.turn (.nil) (nil_row (e := kTree) (t := 30)) ?_
            rintro _ rfl
            refine WX.turn (.take 0 rfl (.nil)) (freeze_row) ?_
            rintro _ rfl
            refine WX.retC1 1 (.use 0 rfl (fun _ h => h) (.nil)) rfl rfl rfl rfl ta30 ti30 rfl ?_
            exact ⟨_, .mk 0 0 [], _, _, rfl, rfl, .inr ⟨by decide, rfl, fun _ => ⟨rfl, ys, hinv.1, hstk (by simpa using hc_3), hc_4⟩⟩⟩
          ·
            have hno : notOne ys = false := hc_4
            obtain ⟨x0, hx0, hf0, ht0⟩ := notOne_no hno
            have hy1 : ys.length = 1 := by rw [hx0]; rfl
            have hok0 := hinv.2.1 ys[0] (List.getElem_mem _)
            have hn0 := nodesE_get ys 0 (by omega)
            refine WC.skip ?_
            refine WX.next ?_
            refine WC.seq ?_
            refine WC.region ?_
            refine WL.quiet (Qt.move rfl) rfl rfl ?_
            have hj_3 : 0 < ys.length := by omega
            refine WL.learn 0 rfl (rowL_at 0 hj_3 (vEdge _)) ?_
            rintro ⟨A_3, c_3⟩ hel_2
            refine WL.quiet (Qt.indexAddrB 0 Tryd.underlying46 ti50 rfl rfl (by first | assumption | omega)) rfl rfl ?_
            refine WL.quiet (Qt.fieldAddrB tf50_1 rfl) rfl rfl ?_
            refine WL.quiet (Qt.loadRA (j := 0) (o := 2) 1 rfl hel_2 ta30 ti30 rfl rfl) rfl rfl ?_
            refine WL.call (.use 0 rfl (fun _ h => h) (.nil)) (Cl.func cb15 rfl) (sortedW (ys[0].t) _ _ hok0 (by omega)) trivial rfl ?_
            rintro _ _ ⟨u_1, A_4, c_4, rfl, rfl, hs_1⟩
            refine WL.loud (.take 3 rfl (.nil)) (Ld.store ti30 rfl rfl rfl rfl rfl rfl) trivial rfl ?_
            rintro _ _ rfl
            refine WL.quiet (Qt.assign rfl) rfl rfl ?_
            refine WL.nil ?_
            refine WX.next ?_
            refine WC.ret ?_
            refine WX.retC1 0 (.use 1 rfl (fun _ h => h) (.nil)) rfl rfl rfl rfl ta30 ti30 rfl ?_
            exact ⟨_, u_1, _, _, rfl, rfl, .inl ⟨rfl, hWF, red_ok hinv hno (by omega) hs_1⟩⟩

end Go.Proofs.YtkhmbhdlfpalkaaDoor.Sep

/- A walk, printed by gen.py out of hints. -/
namespace Go.Proofs.YtkhmbhdlfpalkaaDoor.Sep
open Go
variable {μ : Prop}
theorem formatW_ih (m : Nat) : ∀ (t : PT) (A : Option Addr) (c : Nat), SizeOf.sizeOf t < m → (small t) → t.ok → (t.nodes ≤ 100000) → Spec False Tryd.prog 11 #[.agg [.int .i64 t.kind, .int .i64 t.n, .slice A t.kids.length c].toArray] [rd kTree A c t.kids, cellsAt (⟨0, 0, none⟩ : Addr) [.int .u8 0, .int .u8 0, .int .u8 91, .int .u8 93, .int .u8 123, .int .u8 125]] fun v Δ => v = .string (fmtT t) ∧ Δ = [] := by
  induction m with
  | zero => exact fun t A c h => absurd h (Nat.not_lt_zero _)
  | succ m ih =>
  intro t A c hsz hsm hok hnd
  refine Spec.of_body (n := 48) Tryd.func11 rfl rfl rfl fun w0 S0 O0 => ?_
  show WC _ _ _ _ _ _ [(0, .agg [.int .i64 t.kind, .int .i64 t.n, .slice A t.kids.length c].toArray)] [rd kTree A c t.kids, cellsAt (⟨0, 0, none⟩ : Addr) [.int .u8 0, .int .u8 0, .int .u8 91, .int .u8 93, .int .u8 123, .int .u8 125]]
  refine WC.learn (Z := Unit) (Δ := fun _ => []) (φ := fun _ => t.kids.length ≤ c ∧ c ≤ 9223372036854775807) 0 rfl (fun S w h => ⟨(), rd_bounds h, nofacts⟩) ?_
  rintro _ ⟨hb_1, hb_2⟩
  refine WC.seq ?_
  refine WC.region ?_
  refine WL.loud (.nil) (Ld.box rfl rfl) trivial rfl ?_
  rintro _ _ ⟨b_1, rfl, rfl⟩
  refine WL.quiet (Qt.assign rfl) rfl rfl ?_
  refine WL.nil ?_
  refine WX.next ?_
  refine WC.seq ?_
  refine WC.seq ?_
  refine WC.region ?_
  refine WL.quiet (Qt.fieldAddrB tf30_0 rfl) rfl rfl ?_
  refine WL.quiet (Qt.loadB 0 rfl ta3 rfl rfl) rfl rfl ?_
  refine WL.quiet (Qt.eql rfl rfl) rfl rfl ?_
  refine WL.nil ?_
  refine WX.next ?_
  refine WC.condD rfl (fun hc_1 => ?_) (fun hc_1 => ?_)
  ·
    refine WC.seq ?_
    obtain ⟨hn0, hn1⟩ := small_leaf hsm (by omega)
    obtain ⟨j, hje⟩ := Int.eq_ofNat_of_zero_le hn0
    rw [hje]
    refine WC.region ?_
    refine WL.quiet (Qt.fieldAddrB tf30_1 rfl) rfl rfl ?_
    refine WL.quiet (Qt.loadB 0 rfl ta3 rfl rfl) rfl rfl ?_
    refine WL.call (.nil) (Cl.func cb19 rfl) (Spec.ofPure (Any.strconv_Itoa_small zitoa (j) (by omega))) trivial rfl ?_
    rintro _ _ ⟨rfl, rfl⟩
    refine WL.quiet (Qt.assign rfl) rfl rfl ?_
    refine WL.nil ?_
    refine WX.next ?_
    refine WC.ret ?_
    refine WX.pass_ret ?_
    rw [fmtT_leaf t (by omega), show t.n.toNat = j from by omega]
    refine WX.ret1 (.nil) rfl rfl ?_
    exact ⟨rfl, rfl⟩
  ·
    refine WC.skip ?_
    refine WX.next ?_
    refine WC.seq ?_
    refine WC.cut (fun _ : Unit => [(1, .pointer (some ⟨b_1, 0, none⟩)), (2, .string (⟨#[]⟩ : ByteArray)), (20, .bool (decide (((t.kind : Int) ≠ 1) ∧ ((t.kind : Int) ≠ 2))))]) (fun _ => [blk b_1 30 [.int .i64 t.kind, .int .i64 t.n, .slice A t.kids.length c], rd kTree A c t.kids, cellsAt (⟨0, 0, none⟩ : Addr) [.int .u8 0, .int .u8 0, .int .u8 91, .int .u8 93, .int .u8 123, .int .u8 125]]) (fun _ => True) ?_ ?_
    ·
      refine WC.region ?_
      refine WL.quiet (Qt.fieldAddrB tf30_0 rfl) rfl rfl ?_
      refine WL.quiet (Qt.loadB 0 rfl ta3 rfl rfl) rfl rfl ?_
      refine WL.quiet (Qt.neq rfl rfl) rfl rfl ?_
      refine WL.quiet (Qt.move rfl) rfl rfl ?_
      refine WL.splitD 16 rfl rfl (fun hg_1 => ?_) (fun hg_1 => ?_)
      ·
        refine WL.quietG 3 true rfl 16 rfl rfl (Qt.fieldAddrB tf30_0 rfl) rfl ?_
        refine WL.quietG 3 true rfl 16 rfl rfl (Qt.loadB 0 rfl ta3 rfl rfl) rfl ?_
        refine WL.quietG 3 true rfl 16 rfl rfl (Qt.neq rfl rfl) rfl ?_
        refine WL.quiet (Qt.pickT rfl rfl) rfl rfl ?_
        refine WL.nil ?_
        exact WX.cut () trivial ⟨rfl, rfl, (by rw [show decide (((t.kind : Int) ≠ 1) ∧ ((t.kind : Int) ≠ 2)) = (decide ((t.kind : Int) ≠ 2)) from by first | (simp [hg_1]; done) | exact decide_eq_decide.2 (by omega) | exact decide_eq_true (by omega) | exact decide_eq_false (by omega) | (simp [hg_1] <;> omega)]; rfl), trivial⟩ (.take 0 rfl (.use 0 rfl (fun _ h => h) (.use 1 rfl (fun _ h => h) (.nil))))
      ·
        refine WL.skipG 3 true false rfl 16 rfl rfl rfl rfl ?_
        refine WL.skipG 3 true false rfl 16 rfl rfl rfl rfl ?_
        refine WL.skipG 3 true false rfl 16 rfl rfl rfl rfl ?_
        refine WL.quiet (Qt.pickF rfl rfl) rfl rfl ?_
        refine WL.nil ?_
        exact WX.cut () trivial ⟨rfl, rfl, (by rw [show decide (((t.kind : Int) ≠ 1) ∧ ((t.kind : Int) ≠ 2)) = false from by first | (simp [hg_1]; done) | exact decide_eq_decide.2 (by omega) | exact decide_eq_true (by omega) | exact decide_eq_false (by omega) | (simp [hg_1] <;> omega)]; rfl), trivial⟩ (.take 0 rfl (.use 0 rfl (fun _ h => h) (.use 1 rfl (fun _ h => h) (.nil))))
    ·
      intro _ _
      show WC _ _ _ _ _ _ [(1, .pointer (some ⟨b_1, 0, none⟩)), (2, .string (⟨#[]⟩ : ByteArray)), (20, .bool (decide (((t.kind : Int) ≠ 1) ∧ ((t.kind : Int) ≠ 2))))] [blk b_1 30 [.int .i64 t.kind, .int .i64 t.n, .slice A t.kids.length c], rd kTree A c t.kids, cellsAt (⟨0, 0, none⟩ : Addr) [.int .u8 0, .int .u8 0, .int .u8 91, .int .u8 93, .int .u8 123, .int .u8 125]]
      refine WC.condD rfl (fun hc_2 => ?_) (fun hc_2 => ?_)
      ·
        refine WC.seq ?_
        refine WC.region ?_
        refine WL.quiet (Qt.assign rfl) rfl rfl ?_
        refine WL.nil ?_
        refine WX.next ?_
        refine WC.ret ?_
        refine WX.pass_ret ?_
        refine WX.ret1 (.nil) rfl rfl ?_
        exact absurd hc_2 (by rcases ok_cases hok with h | h <;> omega)
      ·
        refine WC.skip ?_
        refine WX.next ?_
        rcases (show t.kind = 1 ∨ t.kind = 2 from by omega) with hkd | hkd
        ·
          rw [hkd]
          refine WC.seq ?_
          refine WC.region ?_
          refine WL.quiet (Qt.fieldAddrB tf30_0 rfl) rfl rfl ?_
          refine WL.quiet (Qt.loadB 0 rfl ta3 rfl rfl) rfl rfl ?_
          refine WL.quiet (Qt.indexArr (p := ⟨0, 0, none⟩) 1 Tryd.underlying62 ti61 rfl rfl (by decide)) rfl rfl ?_
          refine WL.quiet (Qt.loadCA (p := (⟨0, 0, none⟩ : Addr)) (o := 2) 2 rfl ta61 ti61 rfl rfl) rfl rfl ?_
          refine WL.loud (.nil) (Ld.alloc ti61 rfl) trivial rfl ?_
          rintro _ _ ⟨b_2, rfl, rfl⟩
          refine WL.loud (.take 0 rfl (.nil)) (Ld.store ti61 rfl rfl rfl rfl rfl rfl) trivial rfl ?_
          rintro _ _ rfl
          refine WL.nil ?_
          refine WX.next ?_
          refine WC.seq ?_
          refine WC.region ?_
          refine WL.quiet (Qt.assign rfl) rfl rfl ?_
          refine WL.nil ?_
          refine WX.next ?_
          refine WC.seq ?_
          refine WC.seq ?_
          have hnk := nodes_kids t
          refine WC.region ?_
          refine WL.quiet (Qt.fieldAddrB tf30_2 rfl) rfl rfl ?_
          refine WL.quiet (Qt.loadB 1 rfl ta28 rfl rfl) rfl rfl ?_
          refine WL.quiet (Qt.lenS Tryd.underlying28 rfl) rfl rfl ?_
          refine WL.quiet (Qt.move rfl) rfl rfl ?_
          refine WL.nil ?_
          refine WX.next ?_
          refine WC.block ?_
          refine WC.turn (.nil) (nil_row (e := kStr) (t := 9)) ?_
          rintro _ rfl
          refine WC.loop (fun w0 : Nat × (Option Addr) × Nat × (List ByteArray) => [(2, .string (⟨#[]⟩ : ByteArray)), (3, .pointer (some ⟨b_2, 0, none⟩)), (4, .slice w0.2.1 w0.2.2.2.length w0.2.2.1), (26, .slice A t.kids.length c), (27, .int .i64 ((t.kids.length : Nat) : Int)), (28, .int .i64 ((w0.1 : Nat) : Int))]) (fun w0 => [row kStr 9 w0.2.1 w0.2.2.1 w0.2.2.2, blk b_2 61 [.int .u8 91, .int .u8 93], blk b_1 30 [.int .i64 1, .int .i64 t.n, .slice A t.kids.length c], rd kTree A c t.kids, cellsAt (⟨0, 0, none⟩ : Addr) [.int .u8 0, .int .u8 0, .int .u8 91, .int .u8 93, .int .u8 123, .int .u8 125]]) (fun w0 => w0.1 ≤ t.kids.length ∧ w0.2.2.2.length = w0.1 ∧ w0.2.2.2 = fmtL (t.kids.take w0.1)) (fun w0 => t.kids.length - w0.1) (0, none, 0, []) ⟨Nat.zero_le _, rfl, rfl⟩ ⟨rfl, rfl, rfl, rfl, rfl, rfl, trivial⟩ (.take 0 rfl (.take 0 rfl (.take 0 rfl (.use 0 rfl (fun _ h => h) (.use 1 rfl (fun _ h => h) (.nil)))))) ?_
          rintro ⟨k, A1, c1, l⟩ ⟨hk, hll, hl⟩
          try dsimp only at hk hll hl
          show WC _ _ _ _ _ _ [(2, .string (⟨#[]⟩ : ByteArray)), (3, .pointer (some ⟨b_2, 0, none⟩)), (4, .slice A1 l.length c1), (26, .slice A t.kids.length c), (27, .int .i64 ((t.kids.length : Nat) : Int)), (28, .int .i64 ((k : Nat) : Int))] [row kStr 9 A1 c1 l, blk b_2 61 [.int .u8 91, .int .u8 93], blk b_1 30 [.int .i64 1, .int .i64 t.n, .slice A t.kids.length c], rd kTree A c t.kids, cellsAt (⟨0, 0, none⟩ : Addr) [.int .u8 0, .int .u8 0, .int .u8 91, .int .u8 93, .int .u8 123, .int .u8 125]]
          refine WC.seq ?_
          refine WC.region ?_
          refine WL.quiet (Qt.lss rfl rfl) rfl rfl ?_
          refine WL.nil ?_
          refine WX.next ?_
          refine WC.seq ?_
          refine WC.condD rfl (fun hc_3 => ?_) (fun hc_3 => ?_)
          ·
            refine WC.skip ?_
            refine WX.next ?_
            refine WC.seq ?_
            refine WC.block ?_
            refine WC.seq ?_
            refine WC.region ?_
            have hj_1 : k < t.kids.length := by omega
            refine WL.learn 3 rfl (rd_at k hj_1 (vTree _)) ?_
            rintro ⟨p_1, ⟨A_1, c_1⟩⟩ hA_1
            refine WL.quiet (Qt.indexAddrE k hA_1 Tryd.underlying28 ti30 rfl rfl (by first | assumption | omega)) rfl rfl ?_
            refine WL.quiet (Qt.loadCA (p := p_1.add (k * 3)) (o := 0) 0 rfl ta30 ti30 rfl rfl) rfl rfl ?_
            refine WL.loud (.nil) (Ld.alloc ti30 rfl) trivial rfl ?_
            rintro _ _ ⟨b_3, rfl, rfl⟩
            refine WL.loud (.take 0 rfl (.nil)) (Ld.store ti30 rfl rfl rfl rfl rfl rfl) trivial rfl ?_
            rintro _ _ rfl
            refine WL.nil ?_
            refine WX.next ?_
            refine WC.region ?_
            refine WL.quiet (Qt.move rfl) rfl rfl ?_
            refine WL.quiet (Qt.loadBA 0 rfl ta30 ti30 rfl rfl) rfl rfl ?_
            refine WL.call (.use 2 rfl (fun _ h => h) (.use 7 rfl (fun _ h => h) (.nil))) (Cl.func cb11 rfl) (ih (t.kids[k]) _ _ (by have := kid_size t k (by omega); omega) (small_kid hsm k (by omega)) (ok_kid hok k (by omega)) (by have := nodes_kid t k (by omega); omega)) trivial rfl ?_
            rintro _ _ ⟨rfl, rfl⟩
            refine WL.loud (.nil) (Ld.buildSlice (zs := [.string (⟨#[]⟩ : ByteArray)]) Tryd.underlying60 ti9 rfl rfl (by kernel_rfl) rfl rfl) trivial rfl ?_
            rintro _ _ ⟨b_4, rfl, rfl⟩
            refine WL.loud (.take 4 rfl (.take 0 rfl (.nil))) (Ld.append1 (e := kStr) (xs := l) (fmtT (t.kids[k])) Tryd.underlying60 ti9 rfl (by decide) (by decide) rfl rfl (by first | omega | (simp; omega)) (fun S w h => rfl)) trivial rfl ?_
            rintro _ _ ⟨A_2, c_2, rfl, rfl⟩
            refine WL.quiet (Qt.assign rfl) rfl rfl ?_
            refine WL.nil ?_
            refine WX.block_end ?_
            refine WX.next ?_
            refine WC.region ?_
            refine WL.quiet (Qt.add rfl rfl (by omega)) rfl rfl ?_
            refine WL.quiet (Qt.move rfl) rfl rfl ?_
            refine WL.nil ?_
            exact WX.back (k + 1, A_2, c_2, l ++ [fmtT (t.kids[k])]) ⟨by omega, by simp [hll], by rw [fmtL_take _ _ (by omega), ← hl]⟩ (by first | omega | (dsimp only; omega) | (simp; omega)) ⟨rfl, rfl, rfl, rfl, rfl, rfl, trivial⟩ (.take 0 rfl (.take 3 rfl (.take 3 rfl (.use 3 rfl (fun _ h => h) (.use 4 rfl (fun _ h => h) (.nil))))))
          ·
            refine WC.exit ?_
            refine WX.pass_exit ?_
            refine WX.pass_exit ?_
            refine WX.block_exit ?_
            refine WX.next ?_
            refine WC.seq ?_
            have hend : l = fmtL t.kids := by rw [hl, List.take_of_length_le (by omega)]
            have htwo := ok_two hok (by omega)
            have hjs : (joinB l (⟨#[32]⟩ : ByteArray)).size ≤ 400000 := by rw [hend]; have := joinB_size (fmtL t.kids); have := fmtL_size t.kids (small_kids hsm); have := nodes_eq t; omega
            refine WC.turn (.take 0 rfl (.nil)) (row_open (by omega)) ?_
            rintro _ ⟨b_5, cur_1, rfl, rfl⟩
            refine WC.draw (Γq := [blk b_2 61 [.int .u8 91, .int .u8 93], blk b_1 30 [.int .i64 1, .int .i64 t.n, .slice A t.kids.length c], rd kTree A c t.kids, cellsAt (⟨0, 0, none⟩ : Addr) [.int .u8 0, .int .u8 0, .int .u8 91, .int .u8 93, .int .u8 123, .int .u8 125]]) [0, 1, 2, 3, 4, 5, 6, 7, 8, 9] mixed ?_
            refine WA.take (by kernel_rfl) 0 (by decide) rfl (by kernel_rfl) (by kernel_rfl) (by kernel_rfl) (Calm.then (calm_FQ _ _)) (Qt.indexArrB 0 Tryd.underlying61 ti5 rfl rfl (by decide)) trivial rfl (.take 1 rfl (.take 1 rfl (.use 1 rfl (fun _ h => h) (.use 2 rfl (fun _ h => h) (.nil))))) ?_
            refine WA.take (by kernel_rfl) 1 (by decide) rfl (by kernel_rfl) (by kernel_rfl) (by kernel_rfl) (Calm.then (calm_FQ _ _)) (Qt.loadB 0 rfl ta5 rfl rfl) trivial rfl (.take 1 rfl (.take 1 rfl (.use 1 rfl (fun _ h => h) (.use 2 rfl (fun _ h => h) (.nil))))) ?_
            refine WA.take (by kernel_rfl) 2 (by decide) rfl (by kernel_rfl) (by kernel_rfl) (by kernel_rfl) (Calm.then (calm_FQ _ _)) (Qt.convStr Tryd.underlying5 Tryd.underlying9 rfl) trivial rfl (.take 1 rfl (.take 1 rfl (.use 1 rfl (fun _ h => h) (.use 2 rfl (fun _ h => h) (.nil))))) ?_
            refine WA.take (by kernel_rfl) 3 (by decide) rfl (by kernel_rfl) (by kernel_rfl) (by kernel_rfl) (Calm.then (calm_FQ _ _)) (Qt.move rfl) trivial rfl (.take 1 rfl (.take 1 rfl (.use 1 rfl (fun _ h => h) (.use 2 rfl (fun _ h => h) (.nil))))) ?_
            refine WA.take (by kernel_rfl) 6 (by decide) rfl (by kernel_rfl) (by kernel_rfl) (by kernel_rfl) (Calm.then (calm_FQ _ _)) (Qt.indexArrB 1 Tryd.underlying61 ti5 rfl rfl (by decide)) trivial rfl (.take 1 rfl (.take 1 rfl (.use 1 rfl (fun _ h => h) (.use 2 rfl (fun _ h => h) (.nil))))) ?_
            refine WA.take (by kernel_rfl) 7 (by decide) rfl (by kernel_rfl) (by kernel_rfl) (by kernel_rfl) (Calm.then (calm_FQ _ _)) (Qt.loadB 0 rfl ta5 rfl rfl) trivial rfl (.take 1 rfl (.take 1 rfl (.use 1 rfl (fun _ h => h) (.use 2 rfl (fun _ h => h) (.nil))))) ?_
            refine WA.take (by kernel_rfl) 8 (by decide) rfl (by kernel_rfl) (by kernel_rfl) (by kernel_rfl) (Calm.then (calm_FQ _ _)) (Qt.convStr Tryd.underlying5 Tryd.underlying9 rfl) trivial rfl (.take 1 rfl (.take 1 rfl (.use 1 rfl (fun _ h => h) (.use 2 rfl (fun _ h => h) (.nil))))) ?_
            refine WA.one 4 (by kernel_rfl) ?_
            refine WO.call rfl (.take 0 rfl (.nil)) (Cl.func cb21 rfl) (Spec.joinStr zjoin zextra l (⟨#[32]⟩ : ByteArray) (by omega) (by omega)) trivial rfl (by rintro _ _ ⟨rfl, rfl⟩; exact ⟨_, (.take 0 rfl (.take 0 rfl (.use 0 rfl (fun _ h => h) (.use 1 rfl (fun _ h => h) (.nil)))))⟩) ?_
            rintro _ _ ⟨rfl, rfl⟩
            refine WA.take (by kernel_rfl) 5 (by decide) rfl (by kernel_rfl) (by kernel_rfl) (by kernel_rfl) (Calm.then (calm_FQ _ _)) (Qt.sadd rfl rfl (by rw [enc_size _ (by decide) (by decide)]; omega)) trivial rfl (.take 0 rfl (.take 0 rfl (.use 0 rfl (fun _ h => h) (.use 1 rfl (fun _ h => h) (.nil))))) ?_
            refine WA.take (by kernel_rfl) 9 (by decide) rfl (by kernel_rfl) (by kernel_rfl) (by kernel_rfl) (Calm.then (calm_FQ _ _)) (Qt.sadd rfl rfl (by rw [ByteArray.size_append, enc_size _ (by decide) (by decide), enc_size _ (by decide) (by decide)]; omega)) trivial rfl (.take 0 rfl (.take 0 rfl (.use 0 rfl (fun _ h => h) (.use 1 rfl (fun _ h => h) (.nil))))) ?_
            refine WA.phase (K' := [0, 1, 2, 3, 4, 5, 6, 7, 8, 9, 10]) (Γq' := [blk b_2 61 [.int .u8 91, .int .u8 93], blk b_1 30 [.int .i64 1, .int .i64 t.n, .slice A t.kids.length c], rd kTree A c t.kids, cellsAt (⟨0, 0, none⟩ : Addr) [.int .u8 0, .int .u8 0, .int .u8 91, .int .u8 93, .int .u8 123, .int .u8 125]]) (by kernel_rfl) ?_
            refine WA.take (by kernel_rfl) 10 (by decide) rfl (by kernel_rfl) (by kernel_rfl) (by kernel_rfl) (Calm.then (calm_FQ _ _)) (Qt.assign rfl) trivial rfl (.take 0 rfl (.take 0 rfl (.use 0 rfl (fun _ h => h) (.use 1 rfl (fun _ h => h) (.nil))))) ?_
            refine WA.done (by kernel_rfl) ?_
            refine WX.next ?_
            refine WC.ret ?_
            refine WX.ret1 (.nil) rfl rfl ?_
            exact ⟨by rw [hend, fmtT_ser t hkd], rfl⟩
        ·
          rw [hkd]
          refine WC.seq ?_
          refine WC.region ?_
          refine WL.quiet (Qt.fieldAddrB tf30_0 rfl) rfl rfl ?_
          refine WL.quiet (Qt.loadB 0 rfl ta3 rfl rfl) rfl rfl ?_
          refine WL.quiet (Qt.indexArr (p := ⟨0, 0, none⟩) 2 Tryd.underlying62 ti61 rfl rfl (by decide)) rfl rfl ?_
          refine WL.quiet (Qt.loadCA (p := (⟨0, 0, none⟩ : Addr)) (o := 4) 2 rfl ta61 ti61 rfl rfl) rfl rfl ?_
          refine WL.loud (.nil) (Ld.alloc ti61 rfl) trivial rfl ?_
          rintro _ _ ⟨b_6, rfl, rfl⟩
          refine WL.loud (.take 0 rfl (.nil)) (Ld.store ti61 rfl rfl rfl rfl rfl rfl) trivial rfl ?_
          rintro _ _ rfl
          refine WL.nil ?_
          refine WX.next ?_
          refine WC.seq ?_
          refine WC.region ?_
          refine WL.quiet (Qt.assign rfl) rfl rfl ?_
          refine WL.nil ?_
          refine WX.next ?_
          refine WC.seq ?_
          refine WC.seq ?_
          have hnk := nodes_kids t
          refine WC.region ?_
          refine WL.quiet (Qt.fieldAddrB tf30_2 rfl) rfl rfl ?_
          refine WL.quiet (Qt.loadB 1 rfl ta28 rfl rfl) rfl rfl ?_
          refine WL.quiet (Qt.lenS Tryd.underlying28 rfl) rfl rfl ?_
          refine WL.quiet (Qt.move rfl) rfl rfl ?_
          refine WL.nil ?_
          refine WX.next ?_
          refine WC.block ?_
          refine WC.turn (.nil) (nil_row (e := kStr) (t := 9)) ?_
          rintro _ rfl
          refine WC.loop (fun w0 : Nat × (Option Addr) × Nat × (List ByteArray) => [(2, .string (⟨#[]⟩ : ByteArray)), (3, .pointer (some ⟨b_6, 0, none⟩)), (4, .slice w0.2.1 w0.2.2.2.length w0.2.2.1), (26, .slice A t.kids.length c), (27, .int .i64 ((t.kids.length : Nat) : Int)), (28, .int .i64 ((w0.1 : Nat) : Int))]) (fun w0 => [row kStr 9 w0.2.1 w0.2.2.1 w0.2.2.2, blk b_6 61 [.int .u8 123, .int .u8 125], blk b_1 30 [.int .i64 2, .int .i64 t.n, .slice A t.kids.length c], rd kTree A c t.kids, cellsAt (⟨0, 0, none⟩ : Addr) [.int .u8 0, .int .u8 0, .int .u8 91, .int .u8 93, .int .u8 123, .int .u8 125]]) (fun w0 => w0.1 ≤ t.kids.length ∧ w0.2.2.2.length = w0.1 ∧ w0.2.2.2 = fmtL (t.kids.take w0.1)) (fun w0 => t.kids.length - w0.1) (0, none, 0, []) ⟨Nat.zero_le _, rfl, rfl⟩ ⟨rfl, rfl, rfl, rfl, rfl, rfl, trivial⟩ (.take 0 rfl (.take 0 rfl (.take 0 rfl (.use 0 rfl (fun _ h => h) (.use 1 rfl (fun _ h => h) (.nil)))))) ?_
          rintro ⟨k, A1, c1, l⟩ ⟨hk, hll, hl⟩
          try dsimp only at hk hll hl
          show WC _ _ _ _ _ _ [(2, .string (⟨#[]⟩ : ByteArray)), (3, .pointer (some ⟨b_6, 0, none⟩)), (4, .slice A1 l.length c1), (26, .slice A t.kids.length c), (27, .int .i64 ((t.kids.length : Nat) : Int)), (28, .int .i64 ((k : Nat) : Int))] [row kStr 9 A1 c1 l, blk b_6 61 [.int .u8 123, .int .u8 125], blk b_1 30 [.int .i64 2, .int .i64 t.n, .slice A t.kids.length c], rd kTree A c t.kids, cellsAt (⟨0, 0, none⟩ : Addr) [.int .u8 0, .int .u8 0, .int .u8 91, .int .u8 93, .int .u8 123, .int .u8 125]]
          refine WC.seq ?_
          refine WC.region ?_
          refine WL.quiet (Qt.lss rfl rfl) rfl rfl ?_
          refine WL.nil ?_
          refine WX.next ?_
          refine WC.seq ?_
          refine WC.condD rfl (fun hc_4 => ?_) (fun hc_4 => ?_)
          ·
            refine WC.skip ?_
            refine WX.next ?_
            refine WC.seq ?_
            refine WC.block ?_
            refine WC.seq ?_
            refine WC.region ?_
            have hj_2 : k < t.kids.length := by omega
            refine WL.learn 3 rfl (rd_at k hj_2 (vTree _)) ?_
            rintro ⟨p_2, ⟨A_3, c_3⟩⟩ hA_2
            refine WL.quiet (Qt.indexAddrE k hA_2 Tryd.underlying28 ti30 rfl rfl (by first | assumption | omega)) rfl rfl ?_
            refine WL.quiet (Qt.loadCA (p := p_2.add (k * 3)) (o := 0) 0 rfl ta30 ti30 rfl rfl) rfl rfl ?_
            refine WL.loud (.nil) (Ld.alloc ti30 rfl) trivial rfl ?_
            rintro _ _ ⟨b_7, rfl, rfl⟩
            refine WL.loud (.take 0 rfl (.nil)) (Ld.store ti30 rfl rfl rfl rfl rfl rfl) trivial rfl ?_
            rintro _ _ rfl
            refine WL.nil ?_
            refine WX.next ?_
            refine WC.region ?_
            refine WL.quiet (Qt.move rfl) rfl rfl ?_
            refine WL.quiet (Qt.loadBA 0 rfl ta30 ti30 rfl rfl) rfl rfl ?_
            refine WL.call (.use 2 rfl (fun _ h => h) (.use 7 rfl (fun _ h => h) (.nil))) (Cl.func cb11 rfl) (ih (t.kids[k]) _ _ (by have := kid_size t k (by omega); omega) (small_kid hsm k (by omega)) (ok_kid hok k (by omega)) (by have := nodes_kid t k (by omega); omega)) trivial rfl ?_
            rintro _ _ ⟨rfl, rfl⟩
            refine WL.loud (.nil) (Ld.buildSlice (zs := [.string (⟨#[]⟩ : ByteArray)]) Tryd.underlying60 ti9 rfl rfl (by kernel_rfl) rfl rfl) trivial rfl ?_
            rintro _ _ ⟨b_8, rfl, rfl⟩
            refine WL.loud (.take 4 rfl (.take 0 rfl (.nil))) (Ld.append1 (e := kStr) (xs := l) (fmtT (t.kids[k])) Tryd.underlying60 ti9 rfl (by decide) (by decide) rfl rfl (by first | omega | (simp; omega)) (fun S w h => rfl)) trivial rfl ?_
            rintro _ _ ⟨A_4, c_4, rfl, rfl⟩
            refine WL.quiet (Qt.assign rfl) rfl rfl ?_
            refine WL.nil ?_
            refine WX.block_end ?_
            refine WX.next ?_
            refine WC.region ?_
            refine WL.quiet (Qt.add rfl rfl (by omega)) rfl rfl ?_
            refine WL.quiet (Qt.move rfl) rfl rfl ?_
            refine WL.nil ?_
            exact WX.back (k + 1, A_4, c_4, l ++ [fmtT (t.kids[k])]) ⟨by omega, by simp [hll], by rw [fmtL_take _ _ (by omega), ← hl]⟩ (by first | omega | (dsimp only; omega) | (simp; omega)) ⟨rfl, rfl, rfl, rfl, rfl, rfl, trivial⟩ (.take 0 rfl (.take 3 rfl (.take 3 rfl (.use 3 rfl (fun _ h => h) (.use 4 rfl (fun _ h => h) (.nil))))))
          ·
            refine WC.exit ?_
            refine WX.pass_exit ?_
            refine WX.pass_exit ?_
            refine WX.block_exit ?_
            refine WX.next ?_
            refine WC.seq ?_
            have hend : l = fmtL t.kids := by rw [hl, List.take_of_length_le (by omega)]
            have htwo := ok_two hok (by omega)
            have hjs : (joinB l (⟨#[32]⟩ : ByteArray)).size ≤ 400000 := by rw [hend]; have := joinB_size (fmtL t.kids); have := fmtL_size t.kids (small_kids hsm); have := nodes_eq t; omega
            refine WC.turn (.take 0 rfl (.nil)) (row_open (by omega)) ?_
            rintro _ ⟨b_9, cur_2, rfl, rfl⟩
            refine WC.draw (Γq := [blk b_6 61 [.int .u8 123, .int .u8 125], blk b_1 30 [.int .i64 2, .int .i64 t.n, .slice A t.kids.length c], rd kTree A c t.kids, cellsAt (⟨0, 0, none⟩ : Addr) [.int .u8 0, .int .u8 0, .int .u8 91, .int .u8 93, .int .u8 123, .int .u8 125]]) [0, 1, 2, 3, 4, 5, 6, 7, 8, 9] mixed ?_
            refine WA.take (by kernel_rfl) 0 (by decide) rfl (by kernel_rfl) (by kernel_rfl) (by kernel_rfl) (Calm.then (calm_FQ _ _)) (Qt.indexArrB 0 Tryd.underlying61 ti5 rfl rfl (by decide)) trivial rfl (.take 1 rfl (.take 1 rfl (.use 1 rfl (fun _ h => h) (.use 2 rfl (fun _ h => h) (.nil))))) ?_
            refine WA.take (by kernel_rfl) 1 (by decide) rfl (by kernel_rfl) (by kernel_rfl) (by kernel_rfl) (Calm.then (calm_FQ _ _)) (Qt.loadB 0 rfl ta5 rfl rfl) trivial rfl (.take 1 rfl (.take 1 rfl (.use 1 rfl (fun _ h => h) (.use 2 rfl (fun _ h => h) (.nil))))) ?_
            refine WA.take (by kernel_rfl) 2 (by decide) rfl (by kernel_rfl) (by kernel_rfl) (by kernel_rfl) (Calm.then (calm_FQ _ _)) (Qt.convStr Tryd.underlying5 Tryd.underlying9 rfl) trivial rfl (.take 1 rfl (.take 1 rfl (.use 1 rfl (fun _ h => h) (.use 2 rfl (fun _ h => h) (.nil))))) ?_
            refine WA.take (by kernel_rfl) 3 (by decide) rfl (by kernel_rfl) (by kernel_rfl) (by kernel_rfl) (Calm.then (calm_FQ _ _)) (Qt.move rfl) trivial rfl (.take 1 rfl (.take 1 rfl (.use 1 rfl (fun _ h => h) (.use 2 rfl (fun _ h => h) (.nil))))) ?_
            refine WA.take (by kernel_rfl) 6 (by decide) rfl (by kernel_rfl) (by kernel_rfl) (by kernel_rfl) (Calm.then (calm_FQ _ _)) (Qt.indexArrB 1 Tryd.underlying61 ti5 rfl rfl (by decide)) trivial rfl (.take 1 rfl (.take 1 rfl (.use 1 rfl (fun _ h => h) (.use 2 rfl (fun _ h => h) (.nil))))) ?_
            refine WA.take (by kernel_rfl) 7 (by decide) rfl (by kernel_rfl) (by kernel_rfl) (by kernel_rfl) (Calm.then (calm_FQ _ _)) (Qt.loadB 0 rfl ta5 rfl rfl) trivial rfl (.take 1 rfl (.take 1 rfl (.use 1 rfl (fun _ h => h) (.use 2 rfl (fun _ h => h) (.nil))))) ?_
            refine WA.take (by kernel_rfl) 8 (by decide) rfl (by kernel_rfl) (by kernel_rfl) (by kernel_rfl) (Calm.then (calm_FQ _ _)) (Qt.convStr Tryd.underlying5 Tryd.underlying9 rfl) trivial rfl (.take 1 rfl (.take 1 rfl (.use 1 rfl (fun _ h => h) (.use 2 rfl (fun _ h => h) (.nil))))) ?_
            refine WA.one 4 (by kernel_rfl) ?_
            refine WO.call rfl (.take 0 rfl (.nil)) (Cl.func cb21 rfl) (Spec.joinStr zjoin zextra l (⟨#[32]⟩ : ByteArray) (by omega) (by omega)) trivial rfl (by rintro _ _ ⟨rfl, rfl⟩; exact ⟨_, (.take 0 rfl (.take 0 rfl (.use 0 rfl (fun _ h => h) (.use 1 rfl (fun _ h => h) (.nil)))))⟩) ?_
            rintro _ _ ⟨rfl, rfl⟩
            refine WA.take (by kernel_rfl) 5 (by decide) rfl (by kernel_rfl) (by kernel_rfl) (by kernel_rfl) (Calm.then (calm_FQ _ _)) (Qt.sadd rfl rfl (by rw [enc_size _ (by decide) (by decide)]; omega)) trivial rfl (.take 0 rfl (.take 0 rfl (.use 0 rfl (fun _ h => h) (.use 1 rfl (fun _ h => h) (.nil))))) ?_
            refine WA.take (by kernel_rfl) 9 (by decide) rfl (by kernel_rfl) (by kernel_rfl) (by kernel_rfl) (Calm.then (calm_FQ _ _)) (Qt.sadd rfl rfl (by rw [ByteArray.size_append, enc_size _ (by decide) (by decide), enc_size _ (by decide) (by decide)]; omega)) trivial rfl (.take 0 rfl (.take 0 rfl (.use 0 rfl (fun _ h => h) (.use 1 rfl (fun _ h => h) (.nil))))) ?_
            refine WA.phase (K' := [0, 1, 2, 3, 4, 5, 6, 7, 8, 9, 10]) (Γq' := [blk b_6 61 [.int .u8 123, .int .u8 125], blk b_1 30 [.int .i64 2, .int .i64 t.n, .slice A t.kids.length c], rd kTree A c t.kids, cellsAt (⟨0, 0, none⟩ : Addr) [.int .u8 0, .int .u8 0, .int .u8 91, .int .u8 93, .int .u8 123, .int .u8 125]]) (by kernel_rfl) ?_
            refine WA.take (by kernel_rfl) 10 (by decide) rfl (by kernel_rfl) (by kernel_rfl) (by kernel_rfl) (Calm.then (calm_FQ _ _)) (Qt.assign rfl) trivial rfl (.take 0 rfl (.take 0 rfl (.use 0 rfl (fun _ h => h) (.use 1 rfl (fun _ h => h) (.nil))))) ?_
            refine WA.done (by kernel_rfl) ?_
            refine WX.next ?_
            refine WC.ret ?_
            refine WX.ret1 (.nil) rfl rfl ?_
            exact ⟨by rw [hend, fmtT_par t hkd], rfl⟩
theorem formatW (t : PT) (A : Option Addr) (c : Nat) (hsm : small t) (hok : t.ok) (hnd : t.nodes ≤ 100000) : Spec False Tryd.prog 11 #[.agg [.int .i64 t.kind, .int .i64 t.n, .slice A t.kids.length c].toArray] [rd kTree A c t.kids, cellsAt (⟨0, 0, none⟩ : Addr) [.int .u8 0, .int .u8 0, .int .u8 91, .int .u8 93, .int .u8 123, .int .u8 125]] fun v Δ => v = .string (fmtT t) ∧ Δ = [] := formatW_ih _ t A c (Nat.lt_succ_self _) hsm hok hnd

end Go.Proofs.YtkhmbhdlfpalkaaDoor.Sep

/- A walk, printed by gen.py out of hints. -/
namespace Go.Proofs.YtkhmbhdlfpalkaaDoor.Sep
open Go
variable {μ : Prop}
theorem aliveW   : Spec False Tryd.prog 5 #[] [cellsAt (⟨0, 0, none⟩ : Addr) [.int .u8 0, .int .u8 0, .int .u8 91, .int .u8 93, .int .u8 123, .int .u8 125]] fun v Δ => v = .bool true ∧ Δ = [] := by
  refine Spec.of_body (n := 28) Tryd.func5 rfl rfl rfl fun w0 S0 O0 => ?_
  show WC _ _ _ _ _ _ [] [cellsAt (⟨0, 0, none⟩ : Addr) [.int .u8 0, .int .u8 0, .int .u8 91, .int .u8 93, .int .u8 123, .int .u8 125]]
  refine WC.seq ?_
  refine WC.region ?_
  refine WL.quiet (Qt.assign rfl) rfl rfl ?_
  refine WL.nil ?_
  refine WX.next ?_
  refine WC.seq ?_
  refine WC.region ?_
  refine WL.loud (.nil) (Ld.buildSlice (zs := [.string (⟨#[]⟩ : ByteArray), .string (⟨#[]⟩ : ByteArray), .string (⟨#[]⟩ : ByteArray), .string (⟨#[]⟩ : ByteArray), .string (⟨#[]⟩ : ByteArray), .string (⟨#[]⟩ : ByteArray)]) Tryd.underlying60 ti9 rfl rfl (by kernel_rfl) rfl rfl) trivial rfl ?_
  rintro _ _ ⟨b_1, rfl, rfl⟩
  refine WL.turn (.take 0 rfl (.nil)) (blk_row (e := kStr) (U := []) [(⟨#[76]⟩ : ByteArray), (⟨#[97]⟩ : ByteArray), (⟨#[97]⟩ : ByteArray), (⟨#[82]⟩ : ByteArray), (⟨#[76]⟩ : ByteArray), (⟨#[82]⟩ : ByteArray)] (fun F hF => nomatch hF) (fun S w h => reps_str [(⟨#[76]⟩ : ByteArray), (⟨#[97]⟩ : ByteArray), (⟨#[97]⟩ : ByteArray), (⟨#[82]⟩ : ByteArray), (⟨#[76]⟩ : ByteArray), (⟨#[82]⟩ : ByteArray)]) (by simp)) ?_
  rintro _ rfl
  refine WL.turn (.take 0 rfl (.nil)) (freeze_row) ?_
  rintro _ rfl
  refine WL.call (.use 0 rfl (fun _ h => h) (.nil)) (Cl.func cb10 rfl) (rungW [(⟨#[76]⟩ : ByteArray), (⟨#[97]⟩ : ByteArray), (⟨#[97]⟩ : ByteArray), (⟨#[82]⟩ : ByteArray), (⟨#[76]⟩ : ByteArray), (⟨#[82]⟩ : ByteArray)] _ _ (by simp)) trivial rfl ?_
  rintro _ _ ⟨A_1, c_1, rfl, rfl⟩
  refine WL.call (.use 0 rfl (fun _ h => h) (.nil)) (Cl.func cb6 rfl) (reduceW (pairs [(⟨#[76]⟩ : ByteArray), (⟨#[97]⟩ : ByteArray), (⟨#[97]⟩ : ByteArray), (⟨#[82]⟩ : ByteArray), (⟨#[76]⟩ : ByteArray), (⟨#[82]⟩ : ByteArray)]) _ _ _ _ _ _ _ (by decide)) trivial rfl ?_
  rintro _ _ ⟨e_1, u_1, A_2, c_2, rfl, rfl, hred_1⟩
  refine WL.quiet (Qt.move rfl) rfl rfl ?_
  refine WL.quiet (Qt.extract rfl rfl) rfl rfl ?_
  refine WL.quiet (Qt.extract rfl rfl) rfl rfl ?_
  refine WL.loud (.nil) (Ld.alloc ti30 rfl) trivial rfl ?_
  rintro _ _ ⟨b_2, rfl, rfl⟩
  refine WL.loud (.take 0 rfl (.nil)) (Ld.store ti30 rfl rfl rfl rfl rfl rfl) trivial rfl ?_
  rintro _ _ rfl
  refine WL.quiet (Qt.assign rfl) rfl rfl ?_
  refine WL.nil ?_
  refine WX.next ?_
  refine WC.seq ?_
  refine WC.region ?_
  refine WL.loud (.nil) (Ld.buildSlice (zs := [.string (⟨#[]⟩ : ByteArray), .string (⟨#[]⟩ : ByteArray), .string (⟨#[]⟩ : ByteArray), .string (⟨#[]⟩ : ByteArray), .string (⟨#[]⟩ : ByteArray), .string (⟨#[]⟩ : ByteArray), .string (⟨#[]⟩ : ByteArray), .string (⟨#[]⟩ : ByteArray), .string (⟨#[]⟩ : ByteArray), .string (⟨#[]⟩ : ByteArray)]) Tryd.underlying60 ti9 rfl rfl (by kernel_rfl) rfl rfl) trivial rfl ?_
  rintro _ _ ⟨b_3, rfl, rfl⟩
  refine WL.turn (.take 0 rfl (.nil)) (blk_row (e := kStr) (U := []) [(⟨#[76]⟩ : ByteArray), (⟨#[97]⟩ : ByteArray), (⟨#[97]⟩ : ByteArray), (⟨#[82]⟩ : ByteArray), (⟨#[76]⟩ : ByteArray), (⟨#[98]⟩ : ByteArray), (⟨#[98]⟩ : ByteArray), (⟨#[82]⟩ : ByteArray), (⟨#[97]⟩ : ByteArray), (⟨#[98]⟩ : ByteArray)] (fun F hF => nomatch hF) (fun S w h => reps_str [(⟨#[76]⟩ : ByteArray), (⟨#[97]⟩ : ByteArray), (⟨#[97]⟩ : ByteArray), (⟨#[82]⟩ : ByteArray), (⟨#[76]⟩ : ByteArray), (⟨#[98]⟩ : ByteArray), (⟨#[98]⟩ : ByteArray), (⟨#[82]⟩ : ByteArray), (⟨#[97]⟩ : ByteArray), (⟨#[98]⟩ : ByteArray)]) (by simp)) ?_
  rintro _ rfl
  refine WL.turn (.take 0 rfl (.nil)) (freeze_row) ?_
  rintro _ rfl
  refine WL.call (.use 0 rfl (fun _ h => h) (.nil)) (Cl.func cb10 rfl) (rungW [(⟨#[76]⟩ : ByteArray), (⟨#[97]⟩ : ByteArray), (⟨#[97]⟩ : ByteArray), (⟨#[82]⟩ : ByteArray), (⟨#[76]⟩ : ByteArray), (⟨#[98]⟩ : ByteArray), (⟨#[98]⟩ : ByteArray), (⟨#[82]⟩ : ByteArray), (⟨#[97]⟩ : ByteArray), (⟨#[98]⟩ : ByteArray)] _ _ (by simp)) trivial rfl ?_
  rintro _ _ ⟨A_3, c_3, rfl, rfl⟩
  refine WL.call (.use 0 rfl (fun _ h => h) (.nil)) (Cl.func cb6 rfl) (reduceW (pairs [(⟨#[76]⟩ : ByteArray), (⟨#[97]⟩ : ByteArray), (⟨#[97]⟩ : ByteArray), (⟨#[82]⟩ : ByteArray), (⟨#[76]⟩ : ByteArray), (⟨#[98]⟩ : ByteArray), (⟨#[98]⟩ : ByteArray), (⟨#[82]⟩ : ByteArray), (⟨#[97]⟩ : ByteArray), (⟨#[98]⟩ : ByteArray)]) _ _ _ _ _ _ _ (by decide)) trivial rfl ?_
  rintro _ _ ⟨e_2, u_2, A_4, c_4, rfl, rfl, hred_2⟩
  refine WL.quiet (Qt.move rfl) rfl rfl ?_
  refine WL.quiet (Qt.extract rfl rfl) rfl rfl ?_
  refine WL.quiet (Qt.extract rfl rfl) rfl rfl ?_
  refine WL.loud (.nil) (Ld.alloc ti30 rfl) trivial rfl ?_
  rintro _ _ ⟨b_4, rfl, rfl⟩
  refine WL.loud (.take 0 rfl (.nil)) (Ld.store ti30 rfl rfl rfl rfl rfl rfl) trivial rfl ?_
  rintro _ _ rfl
  refine WL.quiet (Qt.assign rfl) rfl rfl ?_
  refine WL.nil ?_
  refine WX.next ?_
  refine WC.seq ?_
  obtain ⟨ha1, ha2, ha3, ha4, ha5⟩ := alive1 hred_1
  have ha6 := alive2 hred_2
  refine WC.region ?_
  refine WL.quiet (Qt.move rfl) rfl rfl ?_
  refine WL.quiet (Qt.to (Qt.eql rfl rfl) (congrArg Value.bool (decide_eq_true ha1))) rfl rfl ?_
  refine WL.quiet (Qt.move rfl) rfl rfl ?_
  refine WL.quietG 2 true rfl 19 rfl rfl (Qt.loadBA 4 rfl ta30 ti30 rfl rfl) rfl ?_
  refine WL.call (.use 5 rfl (fun _ h => h) (.use 8 rfl (fun _ h => h) (.nil))) (Cl.func cb11 rfl) (formatW u_1 _ _ ha2 ha3 ha4) ⟨19, rfl, rfl⟩ rfl ?_
  rintro _ _ ⟨rfl, rfl⟩
  refine WL.quietG 2 true rfl 19 rfl rfl (Qt.to (Qt.seql rfl rfl) (congrArg Value.bool (decide_eq_true ha5))) rfl ?_
  refine WL.quiet (Qt.pickT rfl rfl) rfl rfl ?_
  refine WL.quiet (Qt.move rfl) rfl rfl ?_
  refine WL.quietG 7 true rfl 24 rfl rfl (Qt.move rfl) rfl ?_
  refine WL.quietG 7 true rfl 24 rfl rfl (Qt.to (Qt.eql rfl rfl) (congrArg Value.bool (decide_eq_true ha6))) rfl ?_
  refine WL.quiet (Qt.pickT rfl rfl) rfl rfl ?_
  refine WL.quiet (Qt.assign rfl) rfl rfl ?_
  refine WL.nil ?_
  refine WX.next ?_
  refine WC.ret ?_
  refine WX.ret1 (.nil) rfl rfl ?_
  exact ⟨rfl, rfl⟩

end Go.Proofs.YtkhmbhdlfpalkaaDoor.Sep

/- A walk, printed by gen.py out of hints. -/
namespace Go.Proofs.YtkhmbhdlfpalkaaDoor.Sep
open Go
variable {μ : Prop}
theorem tooLargeRungW (cs : List Contact) (lb jp : ByteArray) (A B : Option Addr) (c nB d : Nat)  : Spec μ Tryd.prog 4 #[.agg [.string lb, .slice A cs.length c, .slice B nB d, .string jp].toArray] [rd kContact A c cs] fun v Δ => ∃ x : Int, v = .int .i64 x ∧ Δ = [] ∧ (x ≤ 0 → cs.length ≤ 60) := by
  refine Spec.of_body (n := 32) Tryd.func4 rfl rfl rfl fun w0 S0 O0 => ?_
  show WC _ _ _ _ _ _ [(0, .agg [.string lb, .slice A cs.length c, .slice B nB d, .string jp].toArray)] [rd kContact A c cs]
  refine WC.learn (Z := Unit) (Δ := fun _ => []) (φ := fun _ => cs.length ≤ c ∧ c ≤ 9223372036854775807) 0 rfl (fun S w h => ⟨(), rd_bounds h, nofacts⟩) ?_
  rintro _ ⟨hb_1, hb_2⟩
  refine WC.seq ?_
  refine WC.region ?_
  refine WL.loud (.nil) (Ld.box rfl rfl) trivial rfl ?_
  rintro _ _ ⟨b_1, rfl, rfl⟩
  refine WL.quiet (Qt.assign rfl) rfl rfl ?_
  refine WL.nil ?_
  refine WX.next ?_
  refine WC.seq ?_
  refine WC.region ?_
  refine WL.quiet (Qt.assign rfl) rfl rfl ?_
  refine WL.nil ?_
  refine WX.next ?_
  refine WC.seq ?_
  refine WC.seq ?_
  refine WC.region ?_
  refine WL.quiet (Qt.fieldAddrB tf25_1 rfl) rfl rfl ?_
  refine WL.quiet (Qt.loadB 0 rfl ta22 rfl rfl) rfl rfl ?_
  refine WL.quiet (Qt.lenS Tryd.underlying22 rfl) rfl rfl ?_
  refine WL.quiet (Qt.move rfl) rfl rfl ?_
  refine WL.nil ?_
  refine WX.next ?_
  refine WC.block ?_
  refine WC.loop (fun w0 : Nat × Int => [(1, .pointer (some ⟨b_1, 0, none⟩)), (2, .int .i64 0), (3, .int .i64 w0.2), (7, .slice A cs.length c), (8, .int .i64 ((cs.length : Nat) : Int)), (9, .int .i64 ((w0.1 : Nat) : Int))]) (fun w0 => [blk b_1 25 [.string lb, .slice A cs.length c, .slice B nB d, .string jp], rd kContact A c cs]) (fun w0 => w0.1 ≤ cs.length) (fun w0 => cs.length - w0.1) (0, 0) (Nat.zero_le _) ⟨rfl, rfl, rfl, rfl, rfl, rfl, trivial⟩ (.take 0 rfl (.use 0 rfl (fun _ h => h) (.nil))) ?_
  rintro ⟨k, s⟩ hk
  try dsimp only at hk
  show WC _ _ _ _ _ _ [(1, .pointer (some ⟨b_1, 0, none⟩)), (2, .int .i64 0), (3, .int .i64 s), (7, .slice A cs.length c), (8, .int .i64 ((cs.length : Nat) : Int)), (9, .int .i64 ((k : Nat) : Int))] [blk b_1 25 [.string lb, .slice A cs.length c, .slice B nB d, .string jp], rd kContact A c cs]
  refine WC.seq ?_
  refine WC.region ?_
  refine WL.quiet (Qt.lss rfl rfl) rfl rfl ?_
  refine WL.nil ?_
  refine WX.next ?_
  refine WC.seq ?_
  refine WC.condD rfl (fun hc_1 => ?_) (fun hc_1 => ?_)
  ·
    refine WC.skip ?_
    refine WX.next ?_
    refine WC.seq ?_
    refine WC.block ?_
    refine WC.seq ?_
    refine WC.region ?_
    have hj_1 : k < cs.length := by omega
    refine WL.learn 1 rfl (rd_at k hj_1 (vContact _)) ?_
    rintro ⟨p_1, ⟨⟩⟩ hA_1
    refine WL.quiet (Qt.indexAddrE k hA_1 Tryd.underlying22 ti42 rfl rfl (by first | assumption | omega)) rfl rfl ?_
    refine WL.quiet (Qt.loadCA (p := p_1.add (k * 5)) (o := 0) 0 rfl ta42 ti42 rfl rfl) rfl rfl ?_
    refine WL.loud (.nil) (Ld.alloc ti42 rfl) trivial rfl ?_
    rintro _ _ ⟨b_2, rfl, rfl⟩
    refine WL.loud (.take 0 rfl (.nil)) (Ld.store ti42 rfl rfl rfl rfl rfl rfl) trivial rfl ?_
    rintro _ _ rfl
    refine WL.nil ?_
    refine WX.next ?_
    refine WC.region ?_
    refine WL.quiet (Qt.move rfl) rfl rfl ?_
    refine WL.quiet (Qt.fieldAddrB tf42_2 rfl) rfl rfl ?_
    refine WL.quiet (Qt.loadB 0 rfl ta9 rfl rfl) rfl rfl ?_
    refine WL.quiet (Qt.lenStr Tryd.underlying9 rfl) rfl rfl ?_
    refine WL.quiet (Qt.addW rfl rfl) rfl rfl ?_
    refine WL.quiet (Qt.fieldAddrB tf42_3 rfl) rfl rfl ?_
    refine WL.quiet (Qt.loadB 0 rfl ta9 rfl rfl) rfl rfl ?_
    refine WL.quiet (Qt.lenStr Tryd.underlying9 rfl) rfl rfl ?_
    refine WL.quiet (Qt.addW rfl rfl) rfl rfl ?_
    refine WL.quiet (Qt.addW rfl rfl) rfl rfl ?_
    refine WL.quiet (Qt.assign rfl) rfl rfl ?_
    refine WL.nil ?_
    refine WX.block_end ?_
    refine WX.next ?_
    refine WC.region ?_
    refine WL.quiet (Qt.add rfl rfl (by omega)) rfl rfl ?_
    refine WL.quiet (Qt.move rfl) rfl rfl ?_
    refine WL.nil ?_
    exact WX.back (k + 1, IntKind.i64.wrap (s + (IntKind.i64.wrap ((IntKind.i64.wrap (1 + (((cs[k].frm).size : Nat) : Int))) + (((cs[k].to).size : Nat) : Int))))) (by dsimp only; omega) (by first | omega | (dsimp only; omega) | (simp; omega)) ⟨rfl, rfl, rfl, rfl, rfl, rfl, trivial⟩ (.take 2 rfl (.use 2 rfl (fun _ h => h) (.nil)))
  ·
    refine WC.exit ?_
    refine WX.pass_exit ?_
    refine WX.pass_exit ?_
    refine WX.block_exit ?_
    refine WX.next ?_
    refine WC.seq ?_
    refine WC.cut (fun _ : Unit => [(2, .int .i64 0), (31, .bool (decide (((s : Int) > 2000) ∨ (((cs.length : Nat) : Int) > 60))))]) (fun _ => [blk b_1 25 [.string lb, .slice A cs.length c, .slice B nB d, .string jp], rd kContact A c cs]) (fun _ => True) ?_ ?_
    ·
      refine WC.region ?_
      refine WL.quiet (Qt.move rfl) rfl rfl ?_
      refine WL.quiet (Qt.gtr rfl rfl) rfl rfl ?_
      refine WL.quiet (Qt.move rfl) rfl rfl ?_
      refine WL.splitD 26 rfl rfl (fun hg_1 => ?_) (fun hg_1 => ?_)
      ·
        refine WL.skipG 2 false true rfl 26 rfl rfl rfl rfl ?_
        refine WL.skipG 2 false true rfl 26 rfl rfl rfl rfl ?_
        refine WL.skipG 2 false true rfl 26 rfl rfl rfl rfl ?_
        refine WL.skipG 2 false true rfl 26 rfl rfl rfl rfl ?_
        refine WL.quiet (Qt.pickT rfl rfl) rfl rfl ?_
        refine WL.nil ?_
        exact WX.cut () trivial ⟨rfl, (by rw [show decide (((s : Int) > 2000) ∨ (((cs.length : Nat) : Int) > 60)) = true from by first | (simp [hg_1]; done) | exact decide_eq_decide.2 (by omega) | exact decide_eq_true (by omega) | exact decide_eq_false (by omega) | (simp [hg_1] <;> omega)]; rfl), trivial⟩ (.take 0 rfl (.use 0 rfl (fun _ h => h) (.nil)))
      ·
        refine WL.quietG 2 false rfl 26 rfl rfl (Qt.fieldAddrB tf25_1 rfl) rfl ?_
        refine WL.quietG 2 false rfl 26 rfl rfl (Qt.loadB 0 rfl ta22 rfl rfl) rfl ?_
        refine WL.quietG 2 false rfl 26 rfl rfl (Qt.lenS Tryd.underlying22 rfl) rfl ?_
        refine WL.quietG 2 false rfl 26 rfl rfl (Qt.gtr rfl rfl) rfl ?_
        refine WL.quiet (Qt.pickF rfl rfl) rfl rfl ?_
        refine WL.nil ?_
        exact WX.cut () trivial ⟨rfl, (by rw [show decide (((s : Int) > 2000) ∨ (((cs.length : Nat) : Int) > 60)) = (decide (((cs.length : Nat) : Int) > 60)) from by first | (simp [hg_1]; done) | exact decide_eq_decide.2 (by omega) | exact decide_eq_true (by omega) | exact decide_eq_false (by omega) | (simp [hg_1] <;> omega)]; rfl), trivial⟩ (.take 0 rfl (.use 0 rfl (fun _ h => h) (.nil)))
    ·
      intro _ _
      show WC _ _ _ _ _ _ [(2, .int .i64 0), (31, .bool (decide (((s : Int) > 2000) ∨ (((cs.length : Nat) : Int) > 60))))] [blk b_1 25 [.string lb, .slice A cs.length c, .slice B nB d, .string jp], rd kContact A c cs]
      refine WC.condD rfl (fun hc_2 => ?_) (fun hc_2 => ?_)
      ·
        refine WC.seq ?_
        refine WC.region ?_
        refine WL.quiet (Qt.assign rfl) rfl rfl ?_
        refine WL.nil ?_
        refine WX.next ?_
        refine WC.ret ?_
        refine WX.pass_ret ?_
        refine WX.ret1 (.nil) rfl rfl ?_
        exact ⟨_, rfl, rfl, fun h => absurd h (by decide)⟩
      ·
        refine WC.skip ?_
        refine WX.next ?_
        refine WC.seq ?_
        refine WC.region ?_
        refine WL.quiet (Qt.assign rfl) rfl rfl ?_
        refine WL.nil ?_
        refine WX.next ?_
        refine WC.ret ?_
        refine WX.ret1 (.nil) rfl rfl ?_
        exact ⟨_, rfl, rfl, fun _ => by omega⟩

end Go.Proofs.YtkhmbhdlfpalkaaDoor.Sep
