/- Texts of this proof, joined: what is of no program, and the walks of its functions -/
import Derived.Test.YtolggjmgfijjfaaGreatDoorCgA
import Derived.Shelf.SlSortCmp.WholeK
import Derived.Shelf.Strconv.Itoa3
import Derived.Shelf.Strings.OnBuilder
import Derived.WalkKit
import Derived.ProofKit
import Derived.OpenShut
import Derived.Carry
import Derived.Below
import Derived.Deep.DeepHandedRow
import Derived.Lib.LaidTab
import Derived.Laws.Pointers
import Derived.LoopN
import Derived.Laws.RangeString
import Derived.Laws.StructEq
import Derived.Test.YtolggjmgfijjfaaGreatDoorProg
set_option autoImplicit false
set_option linter.unusedVariables false
set_option linter.unusedSimpArgs false
set_option linter.unusedSectionVars false
set_option maxRecDepth 100000
/- slices.SortFunc at elements of several cells, over the shelf's contract: a row of one's own is sorted by a key. Nothing here speaks of a program. -/
namespace Go.Proofs.YtolggjmgfijjfaaGreatDoor.Sep
open Go Go.Proofs

theorem cmpI_neg (x y : Int) : cmpI x y < 0 ↔ x < y := by
  unfold cmpI
  split
  · rename_i h; simp [h]
  · split <;> omega
theorem swo_key {α : Type} (f : α → Int) : Go.Sort.SWO (Go.Proofs.ltOf fun x y => cmpI (f x) (f y)) := by
  have h : ∀ x y, Go.Proofs.ltOf (fun x y => cmpI (f x) (f y)) x y = decide (f x < f y) := fun x y => by
    unfold Go.Proofs.ltOf
    rw [decide_eq_decide]
    exact cmpI_neg _ _
  refine ⟨fun x => ?_, fun x y z h1 h2 => ?_, fun x y z h1 h2 => ?_⟩
  · rw [h]; simp
  · rw [h] at *; simp at *; omega
  · rw [h] at *; simp at *; omega
theorem extract_all {β : Type} (a : Array β) (n : Nat) (h : a.size = n) : a.extract 0 n = a := by
  subst h
  exact Array.extract_size
/-- A world that keeps what there was is that world, further on. -/
theorem grow_of_kept {W w' : World} (hk : ∀ k, k < W.heap.size → w'.heap[k]? = W.heap[k]?) (hs : W.heap.size ≤ w'.heap.size) (ho : w'.os = W.os) (ht : w'.tape = W.tape) (hp : w'.output = W.output) (hd : W.drawn ≤ w'.drawn) : ∃ q os', w' = Go.Sort.grow (W.drewN q) os' := by
  refine ⟨w'.drawn - W.drawn, w'.heap.extract W.heap.size w'.heap.size, ?_⟩
  have hh : w'.heap = W.heap ++ w'.heap.extract W.heap.size w'.heap.size := by
    apply Array.ext_getElem?
    intro i
    rcases Nat.lt_or_ge i W.heap.size with h | h
    · rw [Array.getElem?_append_left h, hk i h]
    · rw [Array.getElem?_append_right h, Array.getElem?_extract]
      rcases Nat.lt_or_ge i w'.heap.size with h2 | h2
      · rw [if_pos (by omega)]
        congr 1
        omega
      · rw [if_neg (by omega), Array.getElem?_eq_none h2]
  obtain ⟨h0, t0, d0, o0, p0⟩ := w'
  simp only at hh ho ht hp hd
  subst ho ht hp
  simp only [Go.Sort.grow, World.drewN]
  rw [← hh]
  congr 1
  omega
section
variable {P : Program} {ρ : Go.Shelf.Ren} {α : Type}
theorem put_heap {β : Type} [Inhabited β] (enc : β → List Value) (k : Nat) (w : World) (b m : Nat) (d : Array β) (os : Array Obj) {cur : Array Value} {t : TypeId} (hb : w.heap[b]? = some (.cells cur t (0, 0))) :
    (sortWorldK enc k w b 0 m d os).heap[b]? = some (.cells (Go.Sort.putCells id 0 (Go.Sort.flatK enc k d) cur) t (0, 0)) ∧ (∀ j, j < w.heap.size → j ≠ b → (sortWorldK enc k w b 0 m d os).heap[j]? = w.heap[j]?) ∧ w.heap.size ≤ (sortWorldK enc k w b 0 m d os).heap.size := by
  have hlt : b < w.heap.size := (Array.getElem?_eq_some_iff.1 hb).1
  simp only [sortWorldK, Go.Sort.grow, Go.Sort.putRowK, Go.Sort.putRow, Go.Sort.mapBlock, Go.Sort.ahead]
  refine ⟨?_, fun j hj hne => ?_, by simp⟩
  · rw [Array.getElem?_append_left (by simpa using hlt)]
    simp [Array.getElem?_modify, hb, Go.Sort.onCells]
  · rw [Array.getElem?_append_left (by simpa using hj)]
    simp [Array.getElem?_modify, Ne.symm hne]
theorem put_el {β : Type} [Inhabited β] (enc : β → List Value) (k : Nat) (hk : ∀ x, (enc x).length = k) (d : Array β) (cur : List Value) (j : Nat) (hj : j < d.size) (hfit : d.size * k ≤ cur.length) : el k (Go.Sort.putCells id 0 (Go.Sort.flatK enc k d) cur.toArray).toList j = enc d[j]! := by
  refine el_ext (by rw [hk]; exact Nat.le_refl _) fun o ho => ?_
  have h1 : j * k + o < d.size * k := mul_lt_of hj ho
  have hdiv : (j * k + o) / k = j := by
    rw [Nat.add_comm, Nat.add_mul_div_right _ _ (by omega), Nat.div_eq_of_lt ho, Nat.zero_add]
  have hmod : (j * k + o) % k = o := by rw [Nat.add_comm, Nat.add_mul_mod_self_right, Nat.mod_eq_of_lt ho]
  have hc : j * k + o < cur.length := by omega
  simp only [Go.Sort.putCells, Array.getElem?_toList, Array.getElem?_mapIdx, List.getElem?_toArray, List.getElem?_eq_getElem hc, Option.map_some, Go.Sort.size_flatK]
  rw [if_pos ⟨by omega, by omega⟩, Nat.sub_zero, Go.Sort.get_flatK _ _ _ _ h1, hdiv, hmod]
  have ho' : o < (enc d[j]!).length := by rw [hk]; exact ho
  rw [List.getElem?_eq_getElem ho', id, getElem!_pos (enc d[j]!) o ho']
/-- What is asked of the comparison: at two elements' cells it says how their keys compare; it may lay blocks. -/
def Compares (P : Program) (g : Nat) (e : Kd α) (key : α → Int) (xs : List α) (cur : List Value) : Prop :=
  ∀ (i j : Nat) (hi : i < xs.length) (hj : j < xs.length) (S : Nat → Prop) (w : World), (∀ k, S k → k < w.heap.size) → e.K S w xs[i] (el e.sz cur i) → e.K S w xs[j] (el e.sz cur j) →
    Calls P g #[.agg (el e.sz cur i).toArray, .agg (el e.sz cur j).toArray] w fun r w' => r = .returned (.int .i64 (cmpI (key xs[i]) (key xs[j]))) ∧ ∃ S', Hold ⟨w, S, Own [], True⟩ [] S' w'
theorem Spec.sortFunc {μ : Prop} (L : SlLaysF0.n6 P ρ) (e : Kd α) (key : α → Int) (ha : ∀ w, (isAgg (ρ.t 24)).run P w = .ok true w) (hz : ∀ w, (sizeOf (ρ.t 24)).run P w = .ok e.sz w) {g : Nat} (hg : Callable P g) {t : TypeId} {b c : Nat} {xs : List α} {cur : List Value} (hne : 0 < xs.length) (hlen : xs.length ≤ 1000000) (hc : Compares P g e key xs cur) :
    Spec μ P (ρ.f 6) #[.slice (some ⟨b, 0, none⟩) xs.length c, .func (.func g) #[] #[]] [rowL e t b c xs cur] fun v Δ => ∃ ys cur1, v = .tuple #[] ∧ Δ = [rowL e t b c ys cur1] ∧ ys.Perm xs ∧ ∀ (i j : Nat) (hj : j < ys.length) (hij : i < j), ¬ key ys[j] < key ys[i] := by
  intro w S hs
  have hrow : (rowL e t b c xs cur).ok S w := hs.facts _ List.mem_cons_self
  have hbS : ¬ S b := (hs.fresh _ List.mem_cons_self b rfl).1
  obtain ⟨hb, hcl, hxc, hcm, hK⟩ := hrow
  have hblt : b < w.heap.size := (Array.getElem?_eq_some_iff.1 hb).1
  have hfitn : xs.length * e.sz ≤ cur.length := by rw [hcl]; exact Nat.mul_le_mul_right _ hxc
  let n := xs.length
  haveI : Inhabited (Fin n) := ⟨⟨0, hne⟩⟩
  let enc : Fin n → List Value := fun i => el e.sz cur i.1
  have henc : ∀ x, (enc x).length = e.sz := fun x => e.len _ _ _ _ (hK x.1 x.2)
  have hone : ∀ x v, v ∈ enc x → v.oneCell' = true := fun x v hv => e.one _ _ _ _ (hK x.1 x.2) v hv
  let d : Array (Fin n) := Array.ofFn id
  have hds : d.size = n := by simp [d]
  have hd : ∀ i (h : i < n), d[i]! = ⟨i, h⟩ := fun i h => by
    rw [getElem!_pos d i (by rw [hds]; exact h)]
    simp [d]
  have hH : Go.Sort.HoldsK enc e.sz w b 0 d := by
    intro j hj
    rw [Go.Sort.size_flatK, hds] at hj
    refine ⟨?_, by simp [World.frozen?, hb]⟩
    have hpos : 0 < e.sz := by
      rcases Nat.eq_zero_or_pos e.sz with h0 | h0
      · rw [h0] at hj; omega
      · exact h0
    have hq : j / e.sz < n := (Nat.div_lt_iff_lt_mul hpos).2 hj
    have hdm : j / e.sz * e.sz + j % e.sz = j := by rw [Nat.mul_comm]; exact Nat.div_add_mod j e.sz
    have hjc : j < cur.length := Nat.lt_of_lt_of_le hj hfitn
    rw [Go.Sort.get_flatK _ _ _ _ (by rw [hds]; exact hj), hd _ hq]
    have hcell := el_get e.sz cur (j / e.sz) (j % e.sz) (Nat.mod_lt _ hpos)
    rw [hdm, List.getElem?_eq_getElem hjc] at hcell
    have hl2 : j % e.sz < (enc ⟨j / e.sz, hq⟩).length := by rw [henc]; exact Nat.mod_lt _ hpos
    have hx : (enc ⟨j / e.sz, hq⟩)[j % e.sz]! = cur[j] := by
      rw [getElem!_pos (enc ⟨j / e.sz, hq⟩) (j % e.sz) hl2]
      have := List.getElem?_eq_getElem hl2
      rw [show (enc ⟨j / e.sz, hq⟩)[j % e.sz]? = some cur[j] from hcell] at this
      injection this with this
      exact this.symm
    rw [hx]
    simp [World.cell?, hb, hjc]
  have stays : ∀ m dk os k, S k → (sortWorldK enc e.sz w b 0 m dk os).heap[k]? = w.heap[k]? := fun m dk os k hk => (put_heap enc e.sz w b m dk os hb).2.1 k (hs.sub k hk) fun e' => hbS (e' ▸ hk)
  have hlays : CmpLays P g #[] enc e.sz (fun i j => cmpI (key xs[i.1]) (key xs[j.1])) b 0 d.size w := by
    intro m os dk _ x y
    have hsub : ∀ k, S k → k < (sortWorldK enc e.sz w b 0 m dk os).heap.size := fun k hk => Nat.lt_of_lt_of_le (hs.sub k hk) (put_heap enc e.sz w b m dk os hb).2.2
    have h1 := e.stable S S w (sortWorldK enc e.sz w b 0 m dk os) _ _ (hK x.1 x.2) (fun _ h => h) (fun k hk => stays m dk os k hk)
    have h2 := e.stable S S w (sortWorldK enc e.sz w b 0 m dk os) _ _ (hK y.1 y.2) (fun _ h => h) (fun k hk => stays m dk os k hk)
    refine (hc x.1 y.1 x.2 y.2 S _ hsub h1 h2).mono fun r w' ⟨hr, S', hh⟩ => ⟨hr, ?_⟩
    exact grow_of_kept (fun k hk => hh.kept k hk fun ⟨F, hF, _⟩ => nomatch hF) hh.size hh.os hh.tape hh.output (hh.drawn trivial)
  have hcon := AnyQ.slices_SortFunc L e.sz ha hz enc henc hone _ (swo_key fun i : Fin n => key xs[i.1]) g #[] b 0 c d w (fun args w => run_callFunc hg args w) hlays hH hblt (by rw [hds]; show xs.length < _; omega)
  rw [hds] at hcon
  refine hcon.mono fun r w' ⟨hr, d', m, os, hperm, hsort, hw⟩ => ?_
  subst hw
  obtain ⟨hps, _, hpp⟩ := hperm
  have hds' : d'.size = n := hps.trans hds
  obtain ⟨q1, q2, q3⟩ := put_heap enc e.sz w b m d' os hb
  have hdl : d.toList.map (fun i : Fin n => xs[i.1]) = xs := by
    simp [d, List.map_ofFn, Function.comp_def]
    exact List.ofFn_getElem
  have hlen' : (d'.toList.map fun i : Fin n => xs[i.1]).length = n := by simp [hds']
  refine ⟨_, _, S, hr, ⟨d'.toList.map fun i : Fin n => xs[i.1], (Go.Sort.putCells id 0 (Go.Sort.flatK enc e.sz d') cur.toArray).toList, rfl, rfl, ?_, fun i j hj hij => ?_⟩, ?_⟩
  · have hpp' : d'.toList.Perm d.toList := by
      have e1 : d'.extract 0 n = d' := extract_all d' n hds'
      have e2 : d.extract 0 n = d := extract_all d n hds
      rw [e1, e2] at hpp
      exact hpp
    have := hpp'.map fun i : Fin n => xs[i.1]
    rwa [hdl] at this
  · rw [hlen'] at hj
    have := hsort i j (Nat.zero_le _) hij hj
    unfold Go.Proofs.ltOf at this
    rw [decide_eq_false_iff_not, cmpI_neg, getElem!_pos d' j (by omega), getElem!_pos d' i (by omega)] at this
    simpa using this
  · have hks : ∀ k, S k → (sortWorldK enc e.sz w b 0 m d' os).heap[k]? = w.heap[k]? := fun k hk => stays m d' os k hk
    have hd0 : w.drawn ≤ (sortWorldK enc e.sz w b 0 m d' os).drawn := by
      show w.drawn ≤ w.drawn + m
      omega
    have hkeep : Keeps (Own [rowL e t b c xs cur]) w (sortWorldK enc e.sz w b 0 m d' os) := ⟨rfl, rfl, rfl, q3, fun k hk ho => q2 k hk fun e' => ho (Own.head (F := rowL e t b c xs cur) e'), hd0⟩
    refine Hold.any (Hold.one hs hkeep (rowL e t b c _ _) ⟨by simpa using q1, by simpa [Go.Sort.putCells] using hcl, by rw [hlen']; exact hxc, hcm, fun j hj => ?_⟩ (fun k hk => .inl (Own.head (F := rowL e t b c xs cur) hk)))
    · have hj' : j < d'.size := by rw [hlen'] at hj; omega
      rw [put_el enc e.sz henc d' cur j hj' (by rw [hds']; exact hfitn), getElem!_pos d' j hj']
      have hk := e.stable _ _ _ _ _ _ (hK d'[j].1 d'[j].2) (fun _ h => h) hks
      simpa using hk
end
/-- A comparison of trees, by a contract of it. -/
theorem compares_tree {P : Program} {g : Nat} {key : PT → Int} {xs : List PT} {cur : List Value} (h : ∀ a b, a ∈ xs → b ∈ xs → ∀ A B c d, Spec True P g #[.agg #[.int .i64 a.kind, .int .i64 a.n, .slice A a.kids.length c], .agg #[.int .i64 b.kind, .int .i64 b.n, .slice B b.kids.length d]] [rd kTree A c a.kids, rd kTree B d b.kids] fun v Δ => v = .int .i64 (cmpI (key a) (key b)) ∧ Δ = []) :
    Compares P g kTree key xs cur := by
  intro i j hi hj S w hsub h1 h2
  obtain ⟨⟨A, c⟩, e1, f1⟩ := vTree _ S w _ h1
  obtain ⟨⟨B, d⟩, e2, f2⟩ := vTree _ S w _ h2
  have r1 := f1 _ List.mem_cons_self
  have r2 := f2 _ List.mem_cons_self
  have hno : ∀ k, ¬ Own [rd kTree A c xs[i].kids, rd kTree B d xs[j].kids] k := fun k ⟨F, hF, hk⟩ => by
    rcases List.mem_cons.1 hF with rfl | hF
    · exact hk
    · obtain rfl := List.mem_singleton.1 hF
      exact hk
  have hst : Start [rd kTree A c xs[i].kids, rd kTree B d xs[j].kids] S w := by
    refine ⟨fun F hF => ?_, ?_, fun F hF k hk => absurd ⟨F, hF, hk⟩ (hno k), hsub, fun _ h => h, fun _ h => .inl h, fun _ _ _ => rfl, Nat.le_refl _, rfl, rfl, rfl, fun _ => Nat.le_refl _⟩
    · rcases List.mem_cons.1 hF with rfl | hF
      · exact r1.1
      · obtain rfl := List.mem_singleton.1 hF
        exact r2.1
    · exact List.pairwise_cons.2 ⟨fun F _ k h1 => h1.elim, by simp⟩
  rw [e1, e2]
  refine (h xs[i] xs[j] (List.getElem_mem hi) (List.getElem_mem hj) A B c d w S hst).mono fun r w' ⟨v, Δ, S', he, ⟨hv, hΔ⟩, hh⟩ => ?_
  subst hv hΔ
  refine ⟨he, S', ⟨hh.facts, hh.sep, (fun F hF => nomatch hF), hh.sub, hh.grow, fun k hk => ?_, fun k hk _ => hh.kept k hk (hno k), hh.size, hh.os, hh.tape, hh.output, hh.drawn⟩⟩
  rcases hh.only k hk with h | h | h
  · exact .inl h
  · exact absurd h (hno k)
  · exact .inr (.inr h)

/-! ### What reduce.sorted does -/
mutual
inductive SortedT : PT → PT → Prop
  | mk {k n : Int} {kids ks ks1 : List PT} (h : SortedTL kids ks) (h2 : k = 2 → ks1.Perm ks ∧ ∀ (i j : Nat) (hj : j < ks1.length) (hij : i < j), ¬ leastT ks1[j] < leastT ks1[i]) (h1 : k ≠ 2 → ks1 = ks) : SortedT (.mk k n kids) (.mk k n ks1)
inductive SortedTL : List PT → List PT → Prop
  | nil : SortedTL [] []
  | cons {t u : PT} {l r : List PT} (h : SortedT t u) (k : SortedTL l r) : SortedTL (t :: l) (u :: r)
end
theorem SortedTL.snoc {t u : PT} (hu : SortedT t u) : ∀ {l r : List PT}, SortedTL l r → SortedTL (l ++ [t]) (r ++ [u])
  | [], _, .nil => .cons hu .nil
  | _ :: _, _, .cons h k => .cons h (k.snoc hu)
theorem SortedTL.take_succ {l r : List PT} {k : Nat} {u : PT} (h : SortedTL (l.take k) r) (hk : k < l.length) (hu : SortedT l[k] u) : SortedTL (l.take (k + 1)) (r ++ [u]) := by
  rw [Sep.take_succ l k hk]
  exact h.snoc hu
mutual
theorem SortedT.sorts : ∀ {t u : PT}, t.ok → SortedT t u → Sorts t u
  | .mk k n kids, _, ht, .mk (ks := ks) (ks1 := ks1) h h2 h1 => by
    have hc := ok_cases ht
    rcases hc with ⟨hk, hkid⟩ | ⟨hk, hn, h3, h4, h5⟩
    · have hk : k = 0 := hk
      have hkid : kids = [] := hkid
      subst hkid
      cases h
      rw [h1 (by omega)]
      exact ⟨rfl, rfl, rfl, List.Perm.refl _, ht⟩
    · have hn : n = 0 := hn
      subst hn
      have hs := SortedTL.sorts (l := kids) (okL_iff.2 h5) h
      have hp : ks1.Perm ks := by
        by_cases he : k = 2
        · exact (h2 he).1
        · rw [h1 he]
      have hk : k = 1 ∨ k = 2 := hk
      exact sorts_mk (t := .mk k 0 kids) ht (by show k ≠ 0; omega) hs hp
theorem SortedTL.sorts : ∀ {l r : List PT}, okL l → SortedTL l r → SortsL l r
  | [], _, _, .nil => .nil
  | _ :: _, _, hl, .cons h k => by
    rw [okL] at hl
    exact .cons (SortedT.sorts hl.1 h) (SortedTL.sorts hl.2 k)
end
/-- What the sort is handed. -/
theorem sorted_in {t : PT} {acc : List PT} (ht : t.ok) (h2 : t.kind = 2) (hnd : t.nodes ≤ 300000) (ha : SortedTL t.kids acc) : 0 < acc.length ∧ acc.length ≤ 1000000 ∧ ∀ x, x ∈ acc → 0 < x.leaves.length ∧ x.leaves.length ≤ 1000000 := by
  rcases ok_cases ht with h | ⟨hk, hn, h3, h4, h5⟩
  · omega
  · obtain ⟨a1, a2, a3, a4, a5⟩ := (SortedTL.sorts (okL_iff.2 h5) ha).spec
    have hl := nodes_kids t
    have hn := nodes_eq t
    refine ⟨by omega, by omega, fun x hx => ⟨ok_leaves x (okL_iff.1 a4 x hx), ?_⟩⟩
    have h6 := nodesL_mem acc x hx
    have h7 := leaves_le_nodes x
    omega
end Go.Proofs.YtolggjmgfijjfaaGreatDoor.Sep

/- Expanding trees. Nothing here speaks of a program. -/
namespace Go.Proofs.YtolggjmgfijjfaaGreatDoor.Sep
open Go Go.Proofs

/-- A call that leaves the world as it was. -/
theorem Spec.ofPure {μ : Prop} {P : Program} {f : FuncId} {args : Array Value} {v : Value} (h : ∀ w, Calls P f args w fun e w' => e = .returned v ∧ w' = w) : Spec μ P f args [] fun u Δ => u = v ∧ Δ = [] := by
  intro w S hs
  refine (h w).mono fun e w' ⟨he, hw⟩ => ⟨v, [], S, he, ⟨rfl, rfl⟩, ?_⟩
  subst hw
  exact hs.any
def digits (n : Nat) : ByteArray := ⟨(Go.Lib.decDigits n).toArray⟩
def nodeName (n : Nat) : ByteArray := (⟨#[110]⟩ : ByteArray) ++ digits n
def setEnds (cs : List Contact) (i : Nat) (f t : ByteArray) : List Contact := match cs[i]? with
  | some x => cs.set i ⟨x.kind, x.sp, x.n, f, t⟩
  | none => cs
theorem setEnds_at {cs : List Contact} {i : Nat} (h : i < cs.length) (f t : ByteArray) : setEnds cs i f t = cs.set i ⟨cs[i].kind, cs[i].sp, cs[i].n, f, t⟩ := by
  unfold setEnds
  rw [List.getElem?_eq_getElem h]
theorem setEnds_len (cs : List Contact) (i : Nat) (f t : ByteArray) : (setEnds cs i f t).length = cs.length := by
  unfold setEnds
  split <;> simp
abbrev LS := Nat × List Contact
mutual
def layT : PT → ByteArray → ByteArray → LS → LS
  | .mk k n kids, f, t, s => if k = 0 then (s.1, setEnds s.2 n.toNat f t) else if k = 2 then layP kids f t s else layS kids f t s
def layP : List PT → ByteArray → ByteArray → LS → LS
  | [], _, _, s => s
  | x :: r, f, t, s => layP r f t (layT x f t s)
def layS : List PT → ByteArray → ByteArray → LS → LS
  | [], _, _, s => s
  | [x], f, t, s => layT x f t s
  | x :: y :: r, f, t, s => layS (y :: r) (nodeName (s.1 + 1)) t (layT x f (nodeName (s.1 + 1)) (s.1 + 1, s.2))
end
def laySeq : List PT → ByteArray → LS → ByteArray × LS
  | [], a, s => (a, s)
  | x :: r, a, s => laySeq r (nodeName (s.1 + 1)) (layT x a (nodeName (s.1 + 1)) (s.1 + 1, s.2))
theorem layT_leaf (t : PT) (f to : ByteArray) (s : LS) (h : t.kind = 0) : layT t f to s = (s.1, setEnds s.2 t.n.toNat f to) := by
  obtain ⟨k, n, kids⟩ := t
  have h : k = 0 := h
  rw [layT, if_pos h, PT.n]
theorem layT_par (t : PT) (f to : ByteArray) (s : LS) (h0 : t.kind ≠ 0) (h : t.kind = 2) : layT t f to s = layP t.kids f to s := by
  obtain ⟨k, n, kids⟩ := t
  have h0 : ¬ k = 0 := h0
  have h : k = 2 := h
  rw [layT, if_neg h0, if_pos h, PT.kids]
theorem layT_ser (t : PT) (f to : ByteArray) (s : LS) (h0 : t.kind ≠ 0) (h : t.kind ≠ 2) : layT t f to s = layS t.kids f to s := by
  obtain ⟨k, n, kids⟩ := t
  have h0 : ¬ k = 0 := h0
  have h : ¬ k = 2 := h
  rw [layT, if_neg h0, if_neg h, PT.kids]
theorem layP_append : ∀ (l r : List PT) (f t : ByteArray) (s : LS), layP (l ++ r) f t s = layP r f t (layP l f t s)
  | [], r, f, t, s => by simp [layP]
  | x :: l, r, f, t, s => by rw [List.cons_append, layP, layP_append l r, layP]
theorem layP_take (l : List PT) (k : Nat) (h : k < l.length) (f t : ByteArray) (s : LS) : layP (l.take (k + 1)) f t s = layT l[k] f t (layP (l.take k) f t s) := by
  rw [take_succ l k h, layP_append, layP, layP]
theorem laySeq_append : ∀ (l r : List PT) (a : ByteArray) (s : LS), laySeq (l ++ r) a s = laySeq r (laySeq l a s).1 (laySeq l a s).2
  | [], r, a, s => by simp [laySeq]
  | x :: l, r, a, s => by rw [List.cons_append, laySeq, laySeq_append l r, laySeq]
theorem layS_last : ∀ (l : List PT) (x : PT) (a t : ByteArray) (s : LS), layS (l ++ [x]) a t s = layT x (laySeq l a s).1 t (laySeq l a s).2
  | [], x, a, t, s => by simp [layS, laySeq]
  | [y], x, a, t, s => by simp [layS, laySeq]
  | y :: z :: r, x, a, t, s => by
    rw [List.cons_append, List.cons_append, layS, ← List.cons_append, layS_last (z :: r) x]
    simp only [laySeq]
theorem laySeq_take (l : List PT) (k : Nat) (h : k < l.length) (a : ByteArray) (s : LS) : laySeq (l.take (k + 1)) a s = (nodeName ((laySeq (l.take k) a s).2.1 + 1), layT l[k] (laySeq (l.take k) a s).1 (nodeName ((laySeq (l.take k) a s).2.1 + 1)) ((laySeq (l.take k) a s).2.1 + 1, (laySeq (l.take k) a s).2.2)) := by
  rw [take_succ l k h, laySeq_append, laySeq, laySeq]
mutual
theorem layT_len : ∀ (t : PT) (f to : ByteArray) (s : LS), (layT t f to s).2.length = s.2.length
  | .mk k n kids, f, to, s => by
    rw [layT]
    split
    · exact setEnds_len _ _ _ _
    · split
      · exact layP_len kids f to s
      · exact layS_len kids f to s
theorem layP_len : ∀ (l : List PT) (f to : ByteArray) (s : LS), (layP l f to s).2.length = s.2.length
  | [], f, to, s => by rw [layP]
  | x :: r, f, to, s => by rw [layP, layP_len r, layT_len x]
theorem layS_len : ∀ (l : List PT) (f to : ByteArray) (s : LS), (layS l f to s).2.length = s.2.length
  | [], f, to, s => by rw [layS]
  | [x], f, to, s => by rw [layS, layT_len x]
  | x :: y :: r, f, to, s => by rw [layS, layS_len (y :: r), layT_len x]
end
theorem laySeq_len : ∀ (l : List PT) (a : ByteArray) (s : LS), (laySeq l a s).2.2.length = s.2.length
  | [], a, s => rfl
  | x :: r, a, s => by rw [laySeq, laySeq_len r, layT_len]
mutual
theorem layT_made : ∀ (t : PT) (f to : ByteArray) (s : LS), t.ok → (layT t f to s).1 + 1 ≤ s.1 + t.leaves.length
  | .mk k n kids, f, to, s, h => by
    rw [PT.ok] at h
    rcases h with ⟨h, rfl⟩ | ⟨h, _, h2, _, h3⟩
    · rw [layT, if_pos h]
      simp [PT.leaves, h]
    · have hk0 : ¬ k = 0 := by omega
      rw [layT, if_neg hk0, PT.leaves, if_neg hk0, if_pos h]
      split
      · have := layP_made kids f to s h3
        have := okL_leaves kids h3 (by omega)
        omega
      · have := layS_made kids f to s h3 (by omega)
        omega
theorem layP_made : ∀ (l : List PT) (f to : ByteArray) (s : LS), okL l → (layP l f to s).1 + l.length ≤ s.1 + (leavesL l).length
  | [], f, to, s, _ => by simp [layP, leavesL]
  | x :: r, f, to, s, h => by
    rw [okL] at h
    have h1 := layT_made x f to s h.1
    have h2 := layP_made r f to (layT x f to s) h.2
    rw [layP]
    simp only [leavesL, List.length_append, List.length_cons]
    omega
theorem layS_made : ∀ (l : List PT) (f to : ByteArray) (s : LS), okL l → 0 < l.length → (layS l f to s).1 + 1 ≤ s.1 + (leavesL l).length
  | [], f, to, s, _, h => by simp at h
  | [x], f, to, s, h, _ => by
    rw [okL] at h
    have h1 := layT_made x f to s h.1
    rw [layS]
    simp only [leavesL, List.append_nil]
    exact h1
  | x :: y :: r, f, to, s, h, _ => by
    rw [okL] at h
    have h1 := layT_made x f (nodeName (s.1 + 1)) (s.1 + 1, s.2) h.1
    have h2 := layS_made (y :: r) (nodeName (s.1 + 1)) to (layT x f (nodeName (s.1 + 1)) (s.1 + 1, s.2)) h.2 (by simp)
    rw [layS]
    simp only [leavesL, List.length_append] at *
    omega
end
theorem laySeq_made : ∀ (l : List PT) (a : ByteArray) (s : LS), okL l → (laySeq l a s).2.1 ≤ s.1 + (leavesL l).length
  | [], a, s, _ => by simp [laySeq]
  | x :: r, a, s, h => by
    rw [okL] at h
    have h1 := layT_made x a (nodeName (s.1 + 1)) (s.1 + 1, s.2) h.1
    have h2 := laySeq_made r (nodeName (s.1 + 1)) (layT x a (nodeName (s.1 + 1)) (s.1 + 1, s.2)) h.2
    rw [laySeq]
    simp only [leavesL, List.length_append] at *
    omega
theorem layP_bound {t : PT} {k n : Nat} {cs : List Contact} {f to : ByteArray} (hok : t.ok) (hk0 : t.kind ≠ 0) (hk : k < t.kids.length) (hn : n + t.leaves.length ≤ 99) : (layP (t.kids.take k) f to (n, cs)).1 + t.kids[k].leaves.length ≤ 99 := by
  rcases ok_cases hok with h | ⟨h1, _, _, _, h5⟩
  · exact absurd h.1 hk0
  · have h2 := layP_made (t.kids.take k) f to (n, cs) (okL_iff.2 fun x hx => h5 x (List.mem_of_mem_take hx))
    have h3 := leavesL_kid t.kids k hk
    rw [← leaves_kids t h1] at h3
    simp only at h2
    omega
theorem laySeq_bound {t : PT} {k n : Nat} {cs : List Contact} {f : ByteArray} (hok : t.ok) (hk0 : t.kind ≠ 0) (hk : k + 1 < t.kids.length) (hn : n + t.leaves.length ≤ 99) : (laySeq (t.kids.take k) f (n, cs)).2.1 + 1 + t.kids[k].leaves.length ≤ 99 := by
  rcases ok_cases hok with h | ⟨h1, _, _, _, h5⟩
  · exact absurd h.1 hk0
  · have h2 := laySeq_made (t.kids.take k) f (n, cs) (okL_iff.2 fun x hx => h5 x (List.mem_of_mem_take hx))
    have h3 := leavesL_kid t.kids (k + 1) hk
    rw [leavesL_take _ _ (by omega), List.length_append, ← leaves_kids t h1] at h3
    have h4 := ok_leaves t.kids[k + 1] (h5 _ (List.getElem_mem hk))
    simp only at h2
    omega
theorem laySeq_boundL {t : PT} {k n : Nat} {cs : List Contact} {f : ByteArray} (hok : t.ok) (hk0 : t.kind ≠ 0) (hk : k < t.kids.length) (hn : n + t.leaves.length ≤ 99) : (laySeq (t.kids.take k) f (n, cs)).2.1 + t.kids[k].leaves.length ≤ 99 := by
  rcases ok_cases hok with h | ⟨h1, _, _, _, h5⟩
  · exact absurd h.1 hk0
  · have h2 := laySeq_made (t.kids.take k) f (n, cs) (okL_iff.2 fun x hx => h5 x (List.mem_of_mem_take hx))
    have h3 := leavesL_kid t.kids k hk
    rw [← leaves_kids t h1] at h3
    simp only at h2
    omega
theorem kid_range {t : PT} {m : Nat} (hok : t.ok) (hk0 : t.kind ≠ 0) (hr : ∀ x, x ∈ t.leaves → 0 ≤ x ∧ x < (m : Int)) {k : Nat} (hk : k < t.kids.length) : ∀ x, x ∈ t.kids[k].leaves → 0 ≤ x ∧ x < (m : Int) := by
  rcases ok_cases hok with h | ⟨h1, _, _, _, h5⟩
  · exact absurd h.1 hk0
  · intro x hx
    refine hr x ?_
    rw [leaves_kids t h1, show t.kids = t.kids.take (k + 1) ++ t.kids.drop (k + 1) from (List.take_append_drop _ _).symm, leavesL_append, leavesL_take _ _ hk]
    exact List.mem_append_left _ (List.mem_append_right _ hx)
theorem ok_two {t : PT} (hok : t.ok) (h0 : t.kind ≠ 0) : t.n = 0 ∧ 2 ≤ t.kids.length := by
  rcases ok_cases hok with h | h
  · exact absurd h.1 h0
  · exact ⟨h.2.1, h.2.2.1⟩
theorem layS_kids {l : List PT} (h : 2 ≤ l.length) (f to : ByteArray) (s : LS) : layS l f to s = layT (l[l.length - 1]'(by omega)) (laySeq (l.take (l.length - 1)) f s).1 to (laySeq (l.take (l.length - 1)) f s).2 := by
  have h1 : l = l.take (l.length - 1) ++ [l[l.length - 1]'(by omega)] := by
    have := Sep.take_succ l (l.length - 1) (by omega)
    rw [show l.length - 1 + 1 = l.length by omega, List.take_length] at this
    exact this
  rw [← layS_last, ← h1]
theorem digits_size {n : Nat} (h : n < 100) : (digits n).size ≤ 2 := by
  unfold digits
  by_cases h1 : n < 10
  · rw [Go.Lib.decDigits_one h1]; simp [ByteArray.size]
  · rw [Go.Lib.decDigits_two h1 h]; simp [ByteArray.size]
theorem name_size {n : Nat} (h : n < 100) : (⟨#[110]⟩ : ByteArray).size + (digits n).size ≤ 9223372036854775807 := by
  have h1 : (⟨#[110]⟩ : ByteArray).size = 1 := rfl
  have := digits_size h
  omega
theorem rd_none {α : Type} {e : Kd α} {A : Option Addr} {c : Nat} {xs : List α} : ∀ S w, (rd e A c xs).ok S w → ∃ z : Unit, (A = none → xs = []) ∧ ∀ X, X ∈ ([] : List Fact) → X.ok S w ∧ ∀ k, ¬ X.own k := fun S w h => by
  refine ⟨(), fun hA => ?_, nofacts⟩
  rcases Nat.eq_zero_or_pos xs.length with h0 | h0
  · exact List.eq_nil_of_length_eq_zero h0
  · obtain ⟨p, hp, _⟩ := h.2.2 0 h0
    rw [hA] at hp
    cases hp
end Go.Proofs.YtolggjmgfijjfaaGreatDoor.Sep

/- What reduce does to a list of edges. Nothing here speaks of a program. -/
namespace Go.Proofs.YtolggjmgfijjfaaGreatDoor.Sep
open Go Go.Proofs

def initE (cs : List Contact) (k : Nat) : List Edge := (List.range k).filterMap fun (i : Nat) => (cs[i]?).map fun c => Edge.mk c.frm c.to (.mk 0 (i : Int) [])
theorem initE_step (cs : List Contact) (k : Nat) (h : k < cs.length) : initE cs (k + 1) = initE cs k ++ [⟨cs[k].frm, cs[k].to, .mk 0 (k : Int) []⟩] := by
  unfold initE
  rw [List.range_succ, List.filterMap_append]
  simp [List.getElem?_eq_getElem h]
theorem initE_len (cs : List Contact) : ∀ (k : Nat), k ≤ cs.length → (initE cs k).length = k
  | 0, _ => by simp [initE]
  | k + 1, h => by rw [initE_step cs k (by omega), List.length_append, initE_len cs k (by omega)]; rfl
theorem initE_nodes (cs : List Contact) : ∀ (k : Nat), k ≤ cs.length → nodesE (initE cs k) = k
  | 0, _ => by simp [initE, nodesE]
  | k + 1, h => by
    rw [initE_step cs k (by omega), nodesE_append, initE_nodes cs k (by omega)]
    simp [nodesE, PT.nodes, nodesL]
def EOk (xs : List Edge) : Prop := ∀ x, x ∈ xs → x.t.ok
theorem initE_ok (cs : List Contact) (k : Nat) : EOk (initE cs k) := by
  intro x hx
  unfold initE at hx
  obtain ⟨i, _, h⟩ := List.mem_filterMap.1 hx
  obtain ⟨c, _, rfl⟩ := Option.map_eq_some_iff.1 h
  exact ok_of (.inl ⟨rfl, rfl⟩)
/-- One reduction. -/
def Step (xs ys : List Edge) : Prop := ParStep xs ys true ∨ SerStep xs ys true
inductive Steps (xs : List Edge) : List Edge → Prop
  | refl : Steps xs xs
  | step {ys zs : List Edge} (h : Steps xs ys) (s : Step ys zs) : Steps xs zs
def Stuck (xs : List Edge) : Prop := ParStep xs xs false ∧ SerStep xs xs false
theorem joinT_ok {k : Int} {a b : PT} (hk : k = 1 ∨ k = 2) (ha : a.ok) (hb : b.ok) : (joinT k a b).ok := by
  have part : ∀ t : PT, t.ok → (∀ x, x ∈ (if t.kind = k then t.kids else [t]) → x.ok ∧ x.kind ≠ k) ∧ 1 ≤ (if t.kind = k then t.kids else [t]).length := by
    intro t ht
    split
    · rename_i h
      rcases ok_cases ht with h1 | ⟨h1, h2, h3, h4, h5⟩
      · omega
      · exact ⟨fun x hx => ⟨h5 x hx, by rw [← h]; exact h4 x hx⟩, by omega⟩
    · rename_i h
      exact ⟨fun x hx => by obtain rfl : x = t := by simpa using hx
                            exact ⟨ht, h⟩, by simp⟩
  obtain ⟨a1, a2⟩ := part a ha
  obtain ⟨b1, b2⟩ := part b hb
  refine ok_of (.inr ⟨hk, rfl, ?_, fun x hx => ?_, fun x hx => ?_⟩)
  · show 2 ≤ (flatK k [a, b]).length
    simp only [flatK, List.append_nil, List.length_append]
    omega
  · have hx : x ∈ flatK k [a, b] := hx
    simp only [flatK, List.append_nil] at hx
    rcases List.mem_append.1 hx with hx | hx
    · exact (a1 x hx).2
    · exact (b1 x hx).2
  · have hx : x ∈ flatK k [a, b] := hx
    simp only [flatK, List.append_nil] at hx
    rcases List.mem_append.1 hx with hx | hx
    · exact (a1 x hx).1
    · exact (b1 x hx).1
theorem joinT_nodes (k : Int) (a b : PT) : (joinT k a b).nodes ≤ a.nodes + b.nodes + 1 := by
  rw [nodes_eq]
  have h := nodesL_flatK k [a, b]
  have e : nodesL [a, b] = a.nodes + b.nodes := by simp [nodesL]
  show nodesL (flatK k [a, b]) + 1 ≤ _
  omega
theorem nodesE_set : ∀ (l : List Edge) (i : Nat) (x : Edge) (h : i < l.length), nodesE (l.set i x) + l[i].t.nodes = nodesE l + x.t.nodes
  | y :: r, 0, x, _ => by simp [nodesE]; omega
  | y :: r, i + 1, x, h => by
    have := nodesE_set r i x (by simpa using h)
    simp [nodesE]
    omega
theorem nodesE_gone (l : List Edge) (j : Nat) (h : j < l.length) : nodesE (l.take j ++ l.drop (j + 1)) + l[j].t.nodes = nodesE l := by
  have h1 : l = l.take j ++ l[j] :: l.drop (j + 1) := by simp
  have h2 : nodesE l = nodesE (l.take j) + (l[j].t.nodes + nodesE (l.drop (j + 1))) := by
    conv => lhs; rw [h1]
    rw [nodesE_append]
    rfl
  rw [nodesE_append]
  omega
theorem gone_len (l : List Edge) (j : Nat) (h : j < l.length) : (l.take j ++ l.drop (j + 1)).length + 1 = l.length := by
  rw [List.length_append, List.length_take, List.length_drop]
  omega
theorem mem_gone {l : List Edge} {j i : Nat} {x y : Edge} (h : y ∈ (l.set i x).take j ++ (l.set i x).drop (j + 1)) : y ∈ l ∨ y = x := by
  have : y ∈ l.set i x := by
    rcases List.mem_append.1 h with h | h
    · exact List.mem_of_mem_take h
    · exact List.mem_of_mem_drop h
  rcases List.mem_or_eq_of_mem_set this with h | h
  · exact .inl h
  · exact .inr h
structure Shrinks (xs ys : List Edge) : Prop where
  nodes : nodesE ys + ys.length ≤ nodesE xs + xs.length
  len : ys.length + 1 = xs.length
  ok : EOk xs → EOk ys
theorem ParStep.shrinks {xs ys : List Edge} (h : ParStep xs ys true) : Shrinks xs ys := by
  rcases h with ⟨h, _⟩ | ⟨_, i, j, hij, hj, _, rfl⟩
  · cases h
  · have hj' : j < (xs.set i ⟨xs[i].frm, xs[i].to, joinT 2 xs[i].t xs[j].t⟩).length := by simpa using hj
    have h1 := gone_len _ j hj'
    have h2 := nodesE_gone _ j hj'
    have h3 := nodesE_set xs i ⟨xs[i].frm, xs[i].to, joinT 2 xs[i].t xs[j].t⟩ (by omega)
    have h4 := joinT_nodes 2 xs[i].t xs[j].t
    have h5 : (xs.set i ⟨xs[i].frm, xs[i].to, joinT 2 xs[i].t xs[j].t⟩)[j] = xs[j] := List.getElem_set_ne (by omega) _
    rw [h5] at h2
    simp only at h3
    rw [List.length_set] at h1
    refine ⟨by omega, h1, fun hok x hx => ?_⟩
    rcases mem_gone hx with hx | rfl
    · exact hok x hx
    · exact joinT_ok (.inr rfl) (hok _ (List.getElem_mem _)) (hok _ (List.getElem_mem _))
theorem SerStep.shrinks {xs ys : List Edge} (h : SerStep xs ys true) : Shrinks xs ys := by
  rcases h with ⟨h, _⟩ | ⟨_, i, k, hi, hk, _, _, _, _, _, rfl⟩
  · cases h
  · have hk' : k < (xs.set i ⟨xs[i].frm, xs[k].to, joinT 1 xs[i].t xs[k].t⟩).length := by simpa using hk
    have h1 := gone_len _ k hk'
    have h2 := nodesE_gone _ k hk'
    have h3 := nodesE_set xs i ⟨xs[i].frm, xs[k].to, joinT 1 xs[i].t xs[k].t⟩ hi
    have h4 := joinT_nodes 1 xs[i].t xs[k].t
    simp only at h3
    rw [List.length_set] at h1
    refine ⟨?_, h1, fun hok x hx => ?_⟩
    · by_cases hki : k = i
      · subst hki
        rw [List.getElem_set_self] at h2
        simp only at h2
        omega
      · rw [List.getElem_set_ne (Ne.symm hki)] at h2
        omega
    · rcases mem_gone hx with hx | rfl
      · exact hok x hx
      · exact joinT_ok (.inl rfl) (hok _ (List.getElem_mem _)) (hok _ (List.getElem_mem _))
theorem Step.shrinks {xs ys : List Edge} (h : Step xs ys) : Shrinks xs ys := h.elim ParStep.shrinks SerStep.shrinks
/-- What holds at each round's head. -/
def RInv (cs : List Contact) (ys : List Edge) : Prop := Steps (initE cs cs.length) ys ∧ EOk ys ∧ nodesE ys + ys.length ≤ 2 * cs.length
theorem RInv.init (cs : List Contact) : RInv cs (initE cs cs.length) := ⟨.refl, initE_ok cs _, by rw [initE_nodes cs _ (Nat.le_refl _), initE_len cs _ (Nat.le_refl _)]; omega⟩
theorem RInv.step {cs : List Contact} {ys zs : List Edge} (h : RInv cs ys) (s : Step ys zs) : RInv cs zs := by
  have hs := s.shrinks
  have := hs.nodes
  exact ⟨.step h.1 s, hs.ok h.2.1, by have := h.2.2; omega⟩
theorem RInv.par {cs : List Contact} {ys zs : List Edge} {r : Bool} (h : RInv cs ys) (s : ParStep ys zs r) : RInv cs zs := by
  cases r with
  | true => exact h.step (.inl s)
  | false =>
    rcases s with ⟨_, rfl, _⟩ | ⟨h', _⟩
    · exact h
    · cases h'
theorem RInv.ser {cs : List Contact} {ys zs : List Edge} {r : Bool} (h : RInv cs ys) (s : SerStep ys zs r) : RInv cs zs := by
  cases r with
  | true => exact h.step (.inr s)
  | false =>
    rcases s with ⟨_, rfl, _⟩ | ⟨h', _⟩
    · exact h
    · cases h'
theorem par_len {ys zs : List Edge} {r : Bool} (s : ParStep ys zs r) : zs.length + (if r = true then 1 else 0) = ys.length := by
  cases r with
  | true => simpa using s.shrinks.len
  | false =>
    rcases s with ⟨_, rfl, _⟩ | ⟨h', _⟩
    · simp
    · cases h'
theorem ser_len {ys zs : List Edge} {r : Bool} (s : SerStep ys zs r) : zs.length + (if r = true then 1 else 0) = ys.length := by
  cases r with
  | true => simpa using s.shrinks.len
  | false =>
    rcases s with ⟨_, rfl, _⟩ | ⟨h', _⟩
    · simp
    · cases h'
theorem stuck_of {xs ys zs : List Edge} {a b : Bool} (h1 : ParStep xs ys a) (h2 : SerStep ys zs b) (h : decide (a = true ∨ b = true) = false) : Stuck zs := by
  have hab : a = false ∧ b = false := by simpa using h
  obtain ⟨rfl, rfl⟩ := hab
  rcases h1 with ⟨_, rfl, h3⟩ | ⟨h', _⟩
  · rcases h2 with ⟨_, rfl, h4⟩ | ⟨h', _⟩
    · exact ⟨.inl ⟨rfl, rfl, h3⟩, .inl ⟨rfl, rfl, h4⟩⟩
    · cases h'
  · cases h'
theorem round_less {xs ys zs : List Edge} {a b : Bool} (h1 : ParStep xs ys a) (h2 : SerStep ys zs b) : 2 * zs.length + (if decide (a = true ∨ b = true) = true then 1 else 0) < 2 * xs.length + 1 := by
  have e1 := par_len h1
  have e2 := ser_len h2
  cases a <;> cases b <;> simp at e1 e2 ⊢ <;> omega
theorem stuck_of2 {xs ys zs : List Edge} {a b g : Bool} (h1 : ParStep xs ys a) (h2 : SerStep ys zs b) (hg : g = decide (a = true ∨ b = true)) (h : g = false) : Stuck zs := stuck_of h1 h2 (hg ▸ h)
theorem round_less2 {xs ys zs : List Edge} {a b g : Bool} (h1 : ParStep xs ys a) (h2 : SerStep ys zs b) (hg : g = decide (a = true ∨ b = true)) : 2 * zs.length + (if g = true then 1 else 0) < 2 * xs.length + 1 := by
  rw [hg]
  exact round_less h1 h2
/-- Is it not one edge from rail to rail? -/
def notOne : List Edge → Bool
  | [x] => decide (¬ (x.frm = sL ∧ x.to = sR))
  | _ => true
theorem notOne_len {ys : List Edge} (h : ¬ (ys.length : Int) = 1) : notOne ys = true := by
  match ys, h with
  | [], _ => rfl
  | [x], h => simp at h
  | _ :: _ :: _, _ => rfl
theorem notOne_at {ys : List Edge} (h : (ys.length : Int) = 1) (h0 : 0 < ys.length) : notOne ys = decide (¬ (ys[0].frm = sL ∧ ys[0].to = sR)) := by
  match ys, h with
  | [x], _ => rfl
theorem notOne_no {ys : List Edge} (h : notOne ys = false) : ∃ x, ys = [x] ∧ x.frm = sL ∧ x.to = sR := by
  match ys, h with
  | [x], h =>
    unfold notOne at h
    have := of_decide_eq_false h
    exact ⟨x, rfl, Classical.not_not.1 this⟩
/-- The result of Reduce: a tree, or none. -/
def RedOk (cs : List Contact) (u : PT) : Prop := ∃ x : PT, Steps (initE cs cs.length) [⟨sL, sR, x⟩] ∧ x.ok ∧ SortedT x u
def RedBad (cs : List Contact) : Prop := ∃ ys, Steps (initE cs cs.length) ys ∧ Stuck ys ∧ notOne ys = true
theorem red_ok {cs : List Contact} {ys : List Edge} {u : PT} (h : RInv cs ys) (h1 : notOne ys = false) (h0 : 0 < ys.length) (hs : SortedT ys[0].t u) : RedOk cs u := by
  obtain ⟨x, rfl, hf, ht⟩ := notOne_no h1
  obtain ⟨f, t, x⟩ := x
  simp only at hf ht
  subst hf ht
  exact ⟨x, h.1, h.2.1 ⟨sL, sR, x⟩ (by simp), hs⟩
end Go.Proofs.YtolggjmgfijjfaaGreatDoor.Sep

/- Arrays, strings that are joined, the text of a tree. Nothing here speaks of a program. -/
namespace Go.Proofs.YtolggjmgfijjfaaGreatDoor.Sep
open Go Go.Proofs

section
variable {P : Program} {G : Ctx} {n : Nat} {D : List Deferred} {L : List (Nat × Value)} {Γ : List Fact}
variable {d : Option Nat} {ty : TypeId} {ps : String} {af : Array Go.Edge} {gd : Option (Nat × Bool)}
/-- The same value, spelled otherwise. -/
theorem Qt.to {o : Oper} {v v' : Value} (h : Qt P G n D o L Γ v) (e : v = v') : Qt P G n D o L Γ v' := e ▸ h
theorem Qt.indexArr {t e : TypeId} {x y : Operand} {z : Value} {sz by_ m : Nat} {p : Addr} {k : IntKind} (j : Nat) (ht : P.underlying t = some (.array m e)) (hi : TI P e z sz by_) (hx : ev L x = some (.pointer (some p))) (hy : ev L y = some (.int k (j : Int))) (h1 : j < m) :
    Qt P G n D ⟨d, .indexAddr t x y, ty, ps, af, gd⟩ L Γ (.pointer (some (p.add (j * sz)))) := fun a w S hf hh => by
  have h0 : (j : Int) < (m : Int) := Int.ofNat_lt.2 h1
  simp [execOp, hf.eval hx, hf.eval hy, Instr.indexAt, asIntOf, run_underlying ht, hi.size, Instr.sureAddr, h1, h0]
theorem Qt.indexArrB {t e : TypeId} {x y : Operand} {z : Value} {sz by_ m b q : Nat} {k : IntKind} (j : Nat) (ht : P.underlying t = some (.array m e)) (hi : TI P e z sz by_) (hx : ev L x = some (.pointer (some ⟨b, q, none⟩))) (hy : ev L y = some (.int k (j : Int))) (h1 : j < m) :
    Qt P G n D ⟨d, .indexAddr t x y, ty, ps, af, gd⟩ L Γ (.pointer (some ⟨b, q + j * sz, none⟩)) := by
  have := Qt.indexArr (P := P) (G := G) (n := n) (D := D) (Γ := Γ) (d := d) (ty := ty) (ps := ps) (af := af) (gd := gd) j ht hi hx hy h1
  rwa [add_plain] at this
theorem Qt.convStr {src dst : TypeId} {x : Operand} {k k' : IntKind} {i : Int} (hs : P.underlying src = some (.int k')) (hd : P.underlying dst = some .string) (hx : ev L x = some (.int k i)) : Qt P G n D ⟨d, .convert src dst x, ty, ps, af, gd⟩ L Γ (.string (Utf8.encode i)) := fun a w S hf hh => by
  simp [execOp, hf.eval hx, convert, run_underlying hs, run_underlying hd, Conv.intToString]
end
theorem el_map1 {α : Type} (f : α → Value) (xs : List α) (j : Nat) (hj : j < xs.length) : ((xs.map f).drop (j * 1)).take 1 = [f xs[j]] := by
  rw [Nat.mul_one, List.drop_eq_getElem_cons (by simpa using hj)]
  simp
theorem reps_str {S : Nat → Prop} {w : World} (xs : List ByteArray) : Reps kStr S w xs (xs.map Value.string) := ⟨by simp [kStr, flat], fun j hj => el_map1 Value.string xs j hj⟩
def joinB (xs : List ByteArray) (sep : ByteArray) : ByteArray := ⟨(Go.Lib.join (xs.map (·.data.toList)) sep.data.toList).toArray⟩
/-- strings.Join of a slice of one's own. -/
theorem Spec.joinStr {P : Program} {ρ : Go.Shelf.Ren} (Ly : Lays.n156 P ρ) (X : Builder.Extra P ρ) {t : TypeId} {b c : Nat} (xs : List ByteArray) (sep : ByteArray) {cur : List Value} (hN : xs.length ≤ 140737488355328) (hlen : (joinB xs sep).size ≤ 140737488355328) :
    Spec False P (ρ.f 156) #[.slice (some ⟨b, 0, none⟩) xs.length c, .string sep] [rowL kStr t b c xs cur] fun v Δ => v = .string (joinB xs sep) ∧ Δ = [] := by
  intro w S hs
  have hrow : (rowL kStr t b c xs cur).ok S w := hs.facts _ List.mem_cons_self
  have hcells : ∀ (j : Nat) x, xs[j]? = some x → w.cell? ⟨b, 0 + j, none⟩ = some (.string x) := by
    intro j x hj
    obtain ⟨hlt, rfl⟩ := List.getElem?_eq_some_iff.1 hj
    have hK : el 1 cur j = [.string xs[j]] := hrow.2.2.2.2 j hlt
    have := rowL_cell hrow (j := j) (o := 0) hK (v := .string xs[j]) rfl
    rw [Nat.zero_add]
    simpa [kStr, flat] using this
  refine (Any.strings_Join Ly X b 0 c xs sep w hcells ((rowL kStr t b c xs cur).lt S w b hrow rfl) hN hrow.2.2.1 (by simpa [joinB, ByteArray.size] using hlen)).mono fun e w' ⟨he, hb⟩ => ⟨_, [], S, he, ⟨rfl, rfl⟩, ?_⟩
  refine ⟨(fun F hF => nomatch hF), .nil, (fun F hF => nomatch hF), fun k hk => Nat.lt_of_lt_of_le (hs.sub k hk) hb.size, fun _ h => h, fun _ h => .inl h, fun k hk _ => hb.block k hk, hb.size, hb.os, hb.tape, hb.output, fun h => h.elim⟩
mutual
/-- tree.Format. -/
def fmtT : PT → ByteArray
  | .mk k n kids => if k = 0 then digits n.toNat else if k = 1 then (Utf8.encode 91 ++ joinB (fmtL kids) ⟨#[32]⟩) ++ Utf8.encode 93 else if k = 2 then (Utf8.encode 123 ++ joinB (fmtL kids) ⟨#[32]⟩) ++ Utf8.encode 125 else ⟨#[]⟩
def fmtL : List PT → List ByteArray
  | [] => []
  | t :: r => fmtT t :: fmtL r
end
/-- Contacts between pairs of nodes. -/
def pairs : List ByteArray → List Contact
  | a :: b :: r => ⟨0, 0, 0, a, b⟩ :: pairs r
  | _ => []
theorem pairs_take : ∀ (xs : List ByteArray) (k : Nat) (h : 2 * k + 1 < xs.length), pairs (xs.take (2 * (k + 1))) = pairs (xs.take (2 * k)) ++ [⟨0, 0, 0, xs[2 * k], xs[2 * k + 1]⟩]
  | a :: b :: r, 0, _ => by simp [pairs]
  | a :: b :: r, k + 1, h => by
    have ih := pairs_take r k (by simp at h; omega)
    have e1 : 2 * (k + 1 + 1) = 2 * (k + 1) + 2 := by omega
    have e2 : 2 * (k + 1) = 2 * k + 2 := by omega
    simp only [e1, e2, List.take_succ_cons, pairs]
    have ih' : pairs (List.take (2 * k + 2) r) = pairs (r.take (2 * k)) ++ [⟨0, 0, 0, r[2 * k]'(by simp at h; omega), r[2 * k + 1]'(by simp at h; omega)⟩] := ih
    rw [ih']
    simp
  | [], k, h => by simp at h
  | [a], k, h => by simp at h
theorem pairs_all (xs : List ByteArray) (k : Nat) (h : xs.length ≤ 2 * k + 1) (h2 : 2 * k ≤ xs.length) : pairs (xs.take (2 * k)) = pairs xs := by
  induction k generalizing xs with
  | zero =>
    match xs, h with
    | [], _ => rfl
    | [a], _ => rfl
  | succ k ih =>
    match xs, h, h2 with
    | a :: b :: r, h, h2 =>
      have e : 2 * (k + 1) = 2 * k + 2 := by omega
      simp only [e, List.take_succ_cons, pairs]
      rw [ih r (by simp at h; omega) (by simp at h2; omega)]
    | [a], h, h2 => simp at h2; omega
    | [], h, h2 => simp at h2
theorem pairs_len (xs : List ByteArray) (k : Nat) (h : 2 * k ≤ xs.length) : (pairs (xs.take (2 * k))).length = k := by
  induction k generalizing xs with
  | zero => simp [pairs]
  | succ k ih =>
    match xs, h with
    | a :: b :: r, h =>
      have e : 2 * (k + 1) = 2 * k + 2 := by omega
      simp only [e, List.take_succ_cons, pairs, List.length_cons]
      rw [ih r (by simp at h; omega)]
    | [a], h => simp at h; omega
    | [], h => simp at h
theorem bytes_len (x : ByteArray) : x.data.toList.length = x.size := Array.length_toList
theorem joinTail_len (sep : List UInt8) : ∀ (l : List ByteArray), (Go.Lib.joinTail sep (l.map (·.data.toList))).length = (l.map fun x => sep.length + x.size).sum
  | [] => rfl
  | x :: r => by
    have ih := joinTail_len sep r
    simp only [Go.Lib.joinTail, List.map_cons, List.flatten_cons, List.length_append, List.sum_cons, bytes_len] at ih ⊢
    rw [ih]
theorem joinB_size (l : List ByteArray) : (joinB l ⟨#[32]⟩).size ≤ (l.map fun x => x.size + 1).sum := by
  cases l with
  | nil => exact Nat.le_refl _
  | cons x r =>
    have h := joinTail_len [32] r
    have e1 : (joinB (x :: r) ⟨#[32]⟩).size = (Go.Lib.join ((x :: r).map (·.data.toList)) [32]).length := rfl
    rw [e1, List.map_cons, Go.Lib.join_cons, List.length_append, bytes_len, h, List.map_cons, List.sum_cons]
    have : (r.map fun x => ([32] : List UInt8).length + x.size) = (r.map fun x => x.size + 1) := List.map_congr_left fun y _ => by show 1 + y.size = _; omega
    rw [this]
    omega
theorem enc_size (i : Int) (h0 : 0 ≤ i) (h : i < 128) : (Utf8.encode i).size = 1 := by
  have hv : Utf8.valid i = true ∨ Utf8.valid i = false := by cases Utf8.valid i <;> simp
  unfold Utf8.encode
  have : Utf8.valid i = true := by simp [Utf8.valid]; omega
  simp [this]
  rw [if_pos (by omega)]
  rfl
mutual
def small : PT → Prop
  | .mk k n kids => (k = 0 → 0 ≤ n ∧ n < 100) ∧ smallL kids
def smallL : List PT → Prop
  | [] => True
  | t :: r => small t ∧ smallL r
end
mutual
theorem fmtT_size : ∀ (t : PT), small t → (fmtT t).size + 1 ≤ 4 * t.nodes
  | .mk k n kids, h => by
    rw [small] at h
    have hk := fmtL_size kids h.2
    have hj := joinB_size (fmtL kids)
    have e1 := enc_size 91 (by decide) (by decide)
    have e2 := enc_size 93 (by decide) (by decide)
    have e3 := enc_size 123 (by decide) (by decide)
    have e4 := enc_size 125 (by decide) (by decide)
    rw [fmtT, PT.nodes]
    split
    · rename_i h0
      have := digits_size (n := n.toNat) (by have := h.1 h0; omega)
      omega
    · split
      · rw [ByteArray.size_append, ByteArray.size_append, e1, e2]; omega
      · split
        · rw [ByteArray.size_append, ByteArray.size_append, e3, e4]; omega
        · show 0 + 1 ≤ _; omega
theorem fmtL_size : ∀ (l : List PT), smallL l → ((fmtL l).map fun x => x.size + 1).sum ≤ 4 * nodesL l
  | [], _ => by simp [fmtL]
  | t :: r, h => by
    rw [smallL] at h
    have h1 := fmtT_size t h.1
    have h2 := fmtL_size r h.2
    rw [fmtL, List.map_cons, List.sum_cons, nodesL]
    omega
end
theorem fmtL_take (l : List PT) (k : Nat) (h : k < l.length) : fmtL (l.take (k + 1)) = fmtL (l.take k) ++ [fmtT l[k]] := by
  have happ : ∀ (a b : List PT), fmtL (a ++ b) = fmtL a ++ fmtL b := by
    intro a b
    induction a with
    | nil => simp [fmtL]
    | cons x r ih => simp [fmtL, ih]
  rw [take_succ l k h, happ]
  rfl
theorem fmtL_len : ∀ (l : List PT), (fmtL l).length = l.length
  | [] => rfl
  | t :: r => by simp [fmtL, fmtL_len r]
theorem small_kid {t : PT} (h : small t) (k : Nat) (hk : k < t.kids.length) : small t.kids[k] := by
  obtain ⟨a, b, l⟩ := t
  rw [small] at h
  have hl : ∀ (l : List PT), smallL l → ∀ x, x ∈ l → small x := by
    intro l
    induction l with
    | nil => intro _ x hx; cases hx
    | cons y r ih =>
      intro h x hx
      rw [smallL] at h
      rcases List.mem_cons.1 hx with rfl | hx
      · exact h.1
      · exact ih h.2 x hx
  exact hl l h.2 _ (List.getElem_mem hk)
theorem small_leaf {t : PT} (h : small t) (h0 : t.kind = 0) : 0 ≤ t.n ∧ t.n < 100 := by
  obtain ⟨a, b, l⟩ := t
  rw [small] at h
  exact h.1 h0
theorem small_kids {t : PT} (h : small t) : smallL t.kids := by
  obtain ⟨a, b, l⟩ := t
  rw [small] at h
  exact h.2
theorem fmtT_leaf (t : PT) (h : t.kind = 0) : fmtT t = digits t.n.toNat := by
  obtain ⟨a, b, l⟩ := t
  have h : a = 0 := h
  rw [fmtT, if_pos h, PT.n]
theorem fmtT_ser (t : PT) (h : t.kind = 1) : fmtT t = (Utf8.encode 91 ++ joinB (fmtL t.kids) ⟨#[32]⟩) ++ Utf8.encode 93 := by
  obtain ⟨a, b, l⟩ := t
  have h : a = 1 := h
  subst h
  rw [fmtT, PT.kids]
  rfl
theorem fmtT_par (t : PT) (h : t.kind = 2) : fmtT t = (Utf8.encode 123 ++ joinB (fmtL t.kids) ⟨#[32]⟩) ++ Utf8.encode 125 := by
  obtain ⟨a, b, l⟩ := t
  have h : a = 2 := h
  subst h
  rw [fmtT, PT.kids]
  rfl
end Go.Proofs.YtolggjmgfijjfaaGreatDoor.Sep

/- Sorting by least leaves is one thing: any two sorted forms of a tree are the same. Nothing here speaks of a program. -/
namespace Go.Proofs.YtolggjmgfijjfaaGreatDoor.Sep
open Go

theorem foldl_min_spec : ∀ (r : List Int) (x : Int), ((r.foldl (fun m y => if y < m then y else m) x) = x ∨ (r.foldl (fun m y => if y < m then y else m) x) ∈ r) ∧ (r.foldl (fun m y => if y < m then y else m) x) ≤ x ∧ ∀ y, y ∈ r → (r.foldl (fun m y => if y < m then y else m) x) ≤ y
  | [], x => ⟨.inl rfl, Int.le_refl _, fun y h => nomatch h⟩
  | z :: r, x => by
    have ih := foldl_min_spec r (if z < x then z else x)
    rw [List.foldl_cons]
    obtain ⟨h1, h2, h3⟩ := ih
    refine ⟨?_, ?_, fun y hy => ?_⟩
    · rcases h1 with h1 | h1
      · rw [h1]
        split
        · exact .inr List.mem_cons_self
        · exact .inl rfl
      · exact .inr (List.mem_cons_of_mem _ h1)
    · refine Int.le_trans h2 ?_
      split <;> omega
    · rcases List.mem_cons.1 hy with rfl | hy
      · refine Int.le_trans h2 ?_
        split <;> omega
      · exact h3 y hy
theorem minL_spec {l : List Int} (h : 0 < l.length) : minL l ∈ l ∧ ∀ y, y ∈ l → minL l ≤ y := by
  match l, h with
  | x :: r, _ =>
    obtain ⟨h1, h2, h3⟩ := foldl_min_spec r x
    refine ⟨?_, fun y hy => ?_⟩
    · rcases h1 with h1 | h1
      · show r.foldl _ x ∈ _
        rw [h1]; exact List.mem_cons_self
      · exact List.mem_cons_of_mem _ h1
    · rcases List.mem_cons.1 hy with rfl | hy
      · exact h2
      · exact h3 y hy
theorem minL_perm {l r : List Int} (h : l.Perm r) : minL l = minL r := by
  rcases Nat.eq_zero_or_pos l.length with h0 | h0
  · have h1 : l = [] := List.eq_nil_of_length_eq_zero h0
    have h2 : r = [] := List.eq_nil_of_length_eq_zero (by rw [← h.length_eq]; exact h0)
    rw [h1, h2]
  · obtain ⟨a1, a2⟩ := minL_spec h0
    obtain ⟨b1, b2⟩ := minL_spec (l := r) (by rw [← h.length_eq]; exact h0)
    have h1 := a2 _ (h.mem_iff.2 b1)
    have h2 := b2 _ (h.mem_iff.1 a1)
    omega

def Asc (l : List PT) : Prop := l.Pairwise fun a b => leastT a ≤ leastT b
def Dis (l : List PT) : Prop := l.Pairwise fun a b => leastT a ≠ leastT b
theorem Dis.perm {l r : List PT} (h : Dis l) (p : l.Perm r) : Dis r := (p.pairwise_iff fun {x y} hxy e => hxy e.symm).1 h
theorem asc_unique : ∀ {l r : List PT}, l.Perm r → Asc l → Asc r → Dis l → l = r
  | [], r, h, _, _, _ => by
    have := h.length_eq
    exact (List.eq_nil_of_length_eq_zero this.symm).symm
  | a :: l, [], h, _, _, _ => by
    have := h.length_eq
    simp at this
  | a :: l, b :: r, h, h1, h2, h3 => by
    obtain ⟨a1, a2⟩ := List.pairwise_cons.1 h1
    obtain ⟨b1, b2⟩ := List.pairwise_cons.1 h2
    obtain ⟨c1, c2⟩ := List.pairwise_cons.1 h3
    rcases Classical.em (a = b) with e | e
    · subst e
      rw [asc_unique (List.Perm.cons_inv h) a2 b2 c2]
    · exfalso
      have ha : a ∈ r := by
        rcases List.mem_cons.1 (h.mem_iff.1 (List.mem_cons_self (a := a) (l := l))) with h' | h'
        · exact absurd h' e
        · exact h'
      have hb : b ∈ l := by
        rcases List.mem_cons.1 (h.mem_iff.2 (List.mem_cons_self (a := b) (l := r))) with h' | h'
        · exact absurd h'.symm e
        · exact h'
      have q1 := a1 b hb
      have q2 := b1 a ha
      have q3 := c1 b hb
      omega
theorem insT_asc (x : PT) : ∀ (l : List PT), Asc l → Asc (insT x l)
  | [], _ => by simp [insT, Asc]
  | y :: r, h => by
    obtain ⟨h1, h2⟩ := List.pairwise_cons.1 h
    rw [insT]
    split
    · rename_i hlt
      refine List.pairwise_cons.2 ⟨fun z hz => ?_, insT_asc x r h2⟩
      rcases List.mem_cons.1 ((insT_perm x r).mem_iff.1 hz) with rfl | hz
      · omega
      · exact h1 z hz
    · rename_i hlt
      refine List.pairwise_cons.2 ⟨fun z hz => ?_, h⟩
      rcases List.mem_cons.1 hz with rfl | hz
      · omega
      · have := h1 z hz
        omega
theorem foldl_insT_asc : ∀ (l out : List PT), Asc out → Asc (l.foldl (fun out x => insT x out) out)
  | [], _, h => h
  | x :: l, out, h => foldl_insT_asc l _ (insT_asc x out h)
theorem sortIns_asc (l : List PT) : Asc (sortIns l) := foldl_insT_asc l [] List.Pairwise.nil
theorem sortIns_eq {l r : List PT} (h : l.Perm r) (hd : Dis l) : sortIns l = sortIns r :=
  asc_unique ((sortIns_perm l).trans (h.trans (sortIns_perm r).symm)) (sortIns_asc l) (sortIns_asc r) (hd.perm (sortIns_perm l).symm)
theorem leastT_mem {t : PT} (h : t.ok) : leastT t ∈ t.leaves := (minL_spec (ok_leaves t h)).1
theorem mem_leavesL {x : Int} : ∀ {l : List PT}, x ∈ leavesL l ↔ ∃ t, t ∈ l ∧ x ∈ t.leaves
  | [] => by simp [leavesL]
  | t :: r => by simp [leavesL, mem_leavesL (l := r)]
theorem dis_of : ∀ {l : List PT}, okL l → (leavesL l).Nodup → Dis l
  | [], _, _ => List.Pairwise.nil
  | t :: r, h, hn => by
    rw [okL] at h
    rw [leavesL, List.nodup_append] at hn
    refine List.pairwise_cons.2 ⟨fun u hu => ?_, dis_of h.2 hn.2.1⟩
    exact hn.2.2 _ (leastT_mem h.1) _ (mem_leavesL.2 ⟨u, hu, leastT_mem (okL_iff.1 h.2 u hu)⟩)
/-! ### Sorted forms -/
mutual
def srtT : PT → PT
  | .mk k n kids => .mk k n (if k = 2 then sortIns (srtL kids) else srtL kids)
def srtL : List PT → List PT
  | [] => []
  | t :: r => srtT t :: srtL r
end
theorem srtL_map : ∀ (l : List PT), srtL l = l.map srtT
  | [] => rfl
  | t :: r => by simp [srtL, srtL_map r]
theorem srtL_append (l r : List PT) : srtL (l ++ r) = srtL l ++ srtL r := by simp [srtL_map]
theorem srtT_kind (t : PT) : (srtT t).kind = t.kind := by
  obtain ⟨k, n, kids⟩ := t
  rw [srtT]; rfl
theorem srtT_kids (t : PT) : (srtT t).kids = if t.kind = 2 then sortIns (srtL t.kids) else srtL t.kids := by
  obtain ⟨k, n, kids⟩ := t
  rw [srtT]; rfl
theorem srtT_n (t : PT) : (srtT t).n = t.n := by
  obtain ⟨k, n, kids⟩ := t
  rw [srtT]; rfl
theorem asc_idx {l : List PT} : Asc l ↔ ∀ (i j : Nat) (hj : j < l.length) (hij : i < j), ¬ leastT l[j] < leastT l[i] := by
  unfold Asc
  rw [List.pairwise_iff_getElem]
  constructor
  · intro h i j hj hij
    have := h i j (by omega) hj hij
    omega
  · intro h i j hi hj hij
    have := h i j hj hij
    omega
mutual
theorem srtT_sorted : ∀ (t : PT), SortedT t (srtT t)
  | .mk k n kids => by
    rw [srtT]
    refine .mk (srtL_sorted kids) (fun h => ?_) (fun h => if_neg h)
    rw [if_pos h]
    exact ⟨sortIns_perm _, asc_idx.1 (sortIns_asc _)⟩
theorem srtL_sorted : ∀ (l : List PT), SortedTL l (srtL l)
  | [] => .nil
  | t :: r => .cons (srtT_sorted t) (srtL_sorted r)
end
theorem kids_nodup {t : PT} (h : t.ok) (hn : t.leaves.Nodup) : okL t.kids ∧ (leavesL t.kids).Nodup := by
  rcases ok_cases h with h1 | h1
  · rw [h1.2]
    exact ⟨trivial, List.nodup_nil⟩
  · rw [leaves_kids t h1.1] at hn
    exact ⟨okL_iff.2 h1.2.2.2.2, hn⟩
mutual
theorem SortedT.uniq : ∀ {t u v : PT}, t.ok → t.leaves.Nodup → SortedT t u → SortedT t v → u = v
  | .mk k n kids, _, _, ht, hn, .mk (ks := ks) (ks1 := ks1) h h2 h1, .mk (ks := ls) (ks1 := ls1) g g2 g1 => by
    have hk := kids_nodup ht hn
    have e : ks = ls := SortedTL.uniq hk.1 hk.2 h g
    subst e
    have hs := (SortedTL.sorts hk.1 h).spec
    by_cases hk2 : k = 2
    · obtain ⟨p1, q1⟩ := h2 hk2
      obtain ⟨p2, q2⟩ := g2 hk2
      have hd : Dis ks := dis_of hs.2.2.2.1 (hs.2.2.1.nodup_iff.2 hk.2)
      rw [asc_unique (p1.trans p2.symm) (asc_idx.2 q1) (asc_idx.2 q2) (hd.perm p1.symm)]
    · rw [h1 hk2, g1 hk2]
theorem SortedTL.uniq : ∀ {l r s : List PT}, okL l → (leavesL l).Nodup → SortedTL l r → SortedTL l s → r = s
  | [], _, _, _, _, .nil, .nil => rfl
  | t :: l, _, _, hl, hn, .cons h k, .cons h' k' => by
    rw [okL] at hl
    rw [leavesL, List.nodup_append] at hn
    rw [SortedT.uniq hl.1 hn.1 h h', SortedTL.uniq hl.2 hn.2.1 k k']
end
theorem srtT_of {t u : PT} (ht : t.ok) (hn : t.leaves.Nodup) (h : SortedT t u) : u = srtT t := SortedT.uniq ht hn h (srtT_sorted t)
theorem srtT_sorts {t : PT} (ht : t.ok) : Sorts t (srtT t) := SortedT.sorts ht (srtT_sorted t)
theorem srtL_spec {l : List PT} (h : okL l) : (srtL l).length = l.length ∧ nodesL (srtL l) = nodesL l ∧ (leavesL (srtL l)).Perm (leavesL l) ∧ okL (srtL l) ∧ ∀ k, (∀ x, x ∈ l → x.kind ≠ k) → ∀ x, x ∈ srtL l → x.kind ≠ k := (SortedTL.sorts h (srtL_sorted l)).spec
theorem joinRT_asc (a b : PT) : Asc (joinRT 2 a b).kids := by
  rw [joinRT_par a b (by decide)]
  exact sortIns_asc _
theorem foldl_joinRT_asc : ∀ (r : List PT) (x : PT), Asc x.kids → Asc (r.foldl (joinRT 2) x).kids
  | [], _, h => h
  | b :: r, x, _ => foldl_joinRT_asc r _ (joinRT_asc x b)
theorem foldJ_asc : ∀ (l : List PT), Asc (foldJ l).kids
  | [] => List.Pairwise.nil
  | [a] => List.Pairwise.nil
  | a :: b :: r => foldl_joinRT_asc r _ (joinRT_asc a b)
mutual
theorem sortedR_sorted : ∀ (t : PT), t.ok → SortedT t (sortedR t)
  | .mk k n kids, h => by
    have hc := ok_cases h
    by_cases h0 : k = 0
    · rw [sortedR_leaf (.mk k n kids) h0]
      rcases hc with h' | h'
      · have hk : kids = [] := h'.2
        subst hk
        exact .mk .nil (fun h2 => by omega) (fun _ => rfl)
      · have : k = 1 ∨ k = 2 := h'.1
        omega
    · rcases hc with h' | ⟨k1, k2, k3, k4, k5⟩
      · exact absurd h'.1 h0
      · have hn : n = 0 := k2
        subst hn
        have hl := sortedRL_sorted kids (okL_iff.2 k5)
        by_cases h1 : k = 1
        · rw [sortedR_ser (.mk k 0 kids) h1]
          subst h1
          exact .mk hl (fun h2 => by omega) (fun _ => rfl)
        · rw [sortedR_par (.mk k 0 kids) h0 h1]
          have hk2 : k = 2 := by
            have : k = 1 ∨ k = 2 := k1
            omega
          subst hk2
          have hs := (SortedTL.sorts (okL_iff.2 k5) hl).spec
          obtain ⟨p1, p2, p3⟩ := foldJ_perm (l := sortedRL kids) (hs.2.2.2.2 2 k4) (by rw [hs.1]; exact k3)
          have e : foldJ (sortedRL kids) = .mk 2 0 (foldJ (sortedRL kids)).kids := PT.ext p1 p2 rfl
          show SortedT _ (foldJ (sortedRL kids))
          rw [e]
          exact .mk hl (fun _ => ⟨p3, asc_idx.1 (foldJ_asc _)⟩) (fun h => absurd rfl h)
theorem sortedRL_sorted : ∀ (l : List PT), okL l → SortedTL l (sortedRL l)
  | [], _ => .nil
  | t :: r, h => by
    rw [okL] at h
    exact .cons (sortedR_sorted t h.1) (sortedRL_sorted r h.2)
end
theorem sortedR_eq {t : PT} (ht : t.ok) (hn : t.leaves.Nodup) : sortedR t = srtT t := srtT_of ht hn (sortedR_sorted t ht)
theorem selfs : ∀ {l : List PT}, (∀ x, x ∈ l → SortedT x x) → SortedTL l l
  | [], _ => .nil
  | t :: r, h => .cons (h t List.mem_cons_self) (selfs fun x hx => h x (List.mem_cons_of_mem _ hx))
mutual
theorem SortedT.self : ∀ {t u : PT}, SortedT t u → SortedT u u
  | .mk k n kids, _, .mk (ks := ks) (ks1 := ks1) h h2 h1 => by
    have hs := SortedTL.self h
    refine .mk (ks := ks1) (selfs fun x hx => hs x ?_) (fun hk => ⟨List.Perm.refl _, (h2 hk).2⟩) (fun _ => rfl)
    by_cases hk : k = 2
    · exact (h2 hk).1.mem_iff.1 hx
    · rw [h1 hk] at hx; exact hx
theorem SortedTL.self : ∀ {l r : List PT}, SortedTL l r → ∀ x, x ∈ r → SortedT x x
  | [], _, .nil => fun x hx => nomatch hx
  | t :: l, _, .cons h k => fun x hx => by
    rcases List.mem_cons.1 hx with rfl | hx
    · exact SortedT.self h
    · exact SortedTL.self k x hx
end
theorem srtT_idem {t : PT} (ht : t.ok) (hn : t.leaves.Nodup) : srtT (srtT t) = srtT t := by
  have hs := srtT_sorts ht
  exact (srtT_of hs.ok (hs.leaves.nodup_iff.2 hn) (srtT_sorted t).self).symm
/-! ### Joining and sorting -/
theorem flat_leaves {k : Int} (hk : k = 1 ∨ k = 2) : ∀ (l : List PT), leavesL (flatK k l) = leavesL l
  | [] => rfl
  | t :: r => by
    rw [flatK, leavesL_append, flat_leaves hk r, leavesL]
    congr 1
    split
    · rename_i h
      rw [leaves_kids t (by omega)]
    · simp [leavesL]
theorem joinT_leaves {k : Int} (hk : k = 1 ∨ k = 2) (a b : PT) : (joinT k a b).leaves = a.leaves ++ b.leaves := by
  rw [leaves_kids (joinT k a b) hk]
  show leavesL (flatK k [a, b]) = _
  rw [flat_leaves hk]
  simp [leavesL]
theorem joinT_assoc (k : Int) (a b c : PT) : joinT k (joinT k a b) c = joinT k a (joinT k b c) := by
  have h1 : ∀ x y : PT, (joinT k x y).kind = k := fun _ _ => rfl
  have h2 : ∀ x y : PT, (joinT k x y).kids = flatK k [x, y] := fun _ _ => rfl
  show PT.mk k 0 (flatK k [joinT k a b, c]) = PT.mk k 0 (flatK k [a, joinT k b c])
  congr 1
  simp only [flatK, h1, h2, if_true, List.append_nil, List.append_assoc]
theorem srtL_flat1 : ∀ (l : List PT), srtL (flatK 1 l) = flatK 1 (srtL l)
  | [] => rfl
  | t :: r => by
    rw [flatK, srtL_append, srtL_flat1 r, srtL, flatK, srtT_kind]
    congr 1
    split
    · rename_i h
      rw [srtT_kids, if_neg (by omega)]
    · rfl
theorem srtL_flat2 : ∀ (l : List PT), (srtL (flatK 2 l)).Perm (flatK 2 (srtL l))
  | [] => List.Perm.refl _
  | t :: r => by
    rw [flatK, srtL_append, srtL, flatK, srtT_kind]
    refine List.Perm.append ?_ (srtL_flat2 r)
    split
    · rename_i h
      rw [srtT_kids, if_pos h]
      exact (sortIns_perm _).symm
    · exact List.Perm.refl _
theorem joinT_srt2 {A B A' B' : PT} (hok : (joinT 2 A B).ok) (hn : (joinT 2 A B).leaves.Nodup) (h : (srtL (flatK 2 [A, B])).Perm (srtL (flatK 2 [A', B']))) : srtT (joinT 2 A B) = srtT (joinT 2 A' B') := by
  have hk := kids_nodup hok hn
  have hs := srtL_spec hk.1
  have hd : Dis (srtL (flatK 2 [A, B])) := dis_of hs.2.2.2.1 (hs.2.2.1.nodup_iff.2 hk.2)
  show srtT (.mk 2 0 (flatK 2 [A, B])) = srtT (.mk 2 0 (flatK 2 [A', B']))
  rw [srtT, srtT, if_pos rfl, if_pos rfl, sortIns_eq h hd]
theorem joinT_congr {k : Int} (hk : k = 1 ∨ k = 2) {A B A' B' : PT} (hok : (joinT k A B).ok) (hn : (joinT k A B).leaves.Nodup) (h1 : srtT A = srtT A') (h2 : srtT B = srtT B') : srtT (joinT k A B) = srtT (joinT k A' B') := by
  rcases hk with rfl | rfl
  · show srtT (.mk 1 0 (flatK 1 [A, B])) = srtT (.mk 1 0 (flatK 1 [A', B']))
    rw [srtT, srtT, if_neg (by decide), if_neg (by decide), srtL_flat1, srtL_flat1]
    simp only [srtL, h1, h2]
  · refine joinT_srt2 hok hn ?_
    refine (srtL_flat2 _).trans (List.Perm.trans ?_ (srtL_flat2 _).symm)
    simp only [srtL, h1, h2]
    exact List.Perm.refl _
theorem joinT_comm {A B : PT} (hok : (joinT 2 A B).ok) (hn : (joinT 2 A B).leaves.Nodup) : srtT (joinT 2 A B) = srtT (joinT 2 B A) := by
  refine joinT_srt2 hok hn ?_
  rw [srtL_map, srtL_map]
  refine List.Perm.map _ ?_
  simp only [flatK, List.append_nil]
  exact List.perm_append_comm
end Go.Proofs.YtolggjmgfijjfaaGreatDoor.Sep

/- Skeletons: series-parallel graphs with trees on their edges; what reductions do to them. Nothing here speaks of a program. -/
namespace Go.Proofs.YtolggjmgfijjfaaGreatDoor.Sep
open Go

/-! ### Lists -/
theorem ext1 {α : Type} {A B rest : List α} {x : α} (h : (A ++ B).Perm (x :: rest)) : (∃ r, A.Perm (x :: r) ∧ rest.Perm (r ++ B)) ∨ (∃ r, B.Perm (x :: r) ∧ rest.Perm (A ++ r)) := by
  rcases List.mem_append.1 (h.mem_iff.2 List.mem_cons_self) with hx | hx
  · obtain ⟨s, u, rfl⟩ := List.append_of_mem hx
    have h1 : (s ++ x :: u).Perm (x :: (s ++ u)) := List.perm_middle
    refine .inl ⟨s ++ u, h1, ?_⟩
    exact (List.Perm.cons_inv ((h1.append_right B).symm.trans h)).symm
  · obtain ⟨s, u, rfl⟩ := List.append_of_mem hx
    have h1 : (s ++ x :: u).Perm (x :: (s ++ u)) := List.perm_middle
    refine .inr ⟨s ++ u, h1, ?_⟩
    have h2 : (A ++ (s ++ x :: u)).Perm (x :: (A ++ (s ++ u))) := (h1.append_left A).trans List.perm_middle
    exact (List.Perm.cons_inv (h2.symm.trans h)).symm
inductive Ext2 {α : Type} (A B : List α) (x y : α) (rest : List α) : Prop
  | left (r : List α) (h : A.Perm (x :: y :: r)) (hr : rest.Perm (r ++ B))
  | right (r : List α) (h : B.Perm (x :: y :: r)) (hr : rest.Perm (A ++ r))
  | both (r s : List α) (h : A.Perm (x :: r)) (h' : B.Perm (y :: s)) (hr : rest.Perm (r ++ s))
  | turned (r s : List α) (h : A.Perm (y :: r)) (h' : B.Perm (x :: s)) (hr : rest.Perm (r ++ s))
theorem ext2 {α : Type} {A B rest : List α} {x y : α} (h : (A ++ B).Perm (x :: y :: rest)) : Ext2 A B x y rest := by
  rcases ext1 h with ⟨r, h1, h2⟩ | ⟨r, h1, h2⟩
  · rcases ext1 h2.symm with ⟨s, h3, h4⟩ | ⟨s, h3, h4⟩
    · exact .left s (h1.trans (h3.cons x)) h4
    · exact .both r s h1 h3 h4
  · rcases ext1 h2.symm with ⟨s, h3, h4⟩ | ⟨s, h3, h4⟩
    · exact .turned s r h3 h1 h4
    · exact .right s (h1.trans (h3.cons x)) h4

/-! ### Skeletons -/
inductive Sk where
  | e (x : PT)
  | par (a b : Sk)
  | ser (a : Sk) (m : ByteArray) (b : Sk)
def Sk.es : Sk → ByteArray → ByteArray → List Edge
  | .e x, f, t => [⟨f, t, x⟩]
  | .par a b, f, t => a.es f t ++ b.es f t
  | .ser a m b, f, t => a.es f m ++ b.es m t
def Sk.mids : Sk → List ByteArray
  | .e _ => []
  | .par a b => a.mids ++ b.mids
  | .ser a m b => a.mids ++ m :: b.mids
def Sk.tr : Sk → PT
  | .e x => x
  | .par a b => joinT 2 a.tr b.tr
  | .ser a _ b => joinT 1 a.tr b.tr
def Sk.ok : Sk → Prop
  | .e x => x.ok
  | .par a b => a.ok ∧ b.ok
  | .ser a _ b => a.ok ∧ b.ok
def Sk.lv : Sk → List Int
  | .e x => x.leaves
  | .par a b => a.lv ++ b.lv
  | .ser a _ b => a.lv ++ b.lv
theorem Sk.tr_ok : ∀ {S : Sk}, S.ok → S.tr.ok
  | .e x, h => h
  | .par a b, h => joinT_ok (.inr rfl) (tr_ok h.1) (tr_ok h.2)
  | .ser a m b, h => joinT_ok (.inl rfl) (tr_ok h.1) (tr_ok h.2)
theorem Sk.tr_leaves : ∀ (S : Sk), S.tr.leaves = S.lv
  | .e x => rfl
  | .par a b => by rw [Sk.tr, joinT_leaves (.inr rfl), tr_leaves a, tr_leaves b]; rfl
  | .ser a m b => by rw [Sk.tr, joinT_leaves (.inl rfl), tr_leaves a, tr_leaves b]; rfl
theorem Sk.pos : ∀ (S : Sk) (f t : ByteArray), 0 < (S.es f t).length
  | .e x, f, t => by simp [Sk.es]
  | .par a b, f, t => by have := pos a f t; simp [Sk.es]; omega
  | .ser a m b, f, t => by have := pos a f m; simp [Sk.es]; omega
theorem Sk.ends : ∀ (S : Sk) {f t : ByteArray} {x : Edge}, x ∈ S.es f t → x.frm ∈ f :: S.mids ∧ x.to ∈ S.mids ++ [t]
  | .e z, f, t, x, h => by
    obtain rfl : x = ⟨f, t, z⟩ := by simpa [Sk.es] using h
    simp [Sk.mids]
  | .par a b, f, t, x, h => by
    rcases List.mem_append.1 h with h | h
    · have := ends a h
      simp only [Sk.mids, List.mem_cons, List.mem_append] at this ⊢
      exact ⟨this.1.imp id .inl, this.2.imp .inl id⟩
    · have := ends b h
      simp only [Sk.mids, List.mem_cons, List.mem_append] at this ⊢
      exact ⟨this.1.imp id .inr, this.2.imp .inr id⟩
  | .ser a m b, f, t, x, h => by
    rcases List.mem_append.1 h with h | h
    · have := ends a h
      simp only [Sk.mids, List.mem_cons, List.mem_append, List.not_mem_nil, or_false] at this ⊢
      exact ⟨this.1.imp id .inl, this.2.elim (fun h => .inl (.inl h)) (fun h => .inl (.inr (.inl h)))⟩
    · have := ends b h
      simp only [Sk.mids, List.mem_cons, List.mem_append, List.not_mem_nil, or_false] at this ⊢
      exact ⟨this.1.elim (fun h => .inr (.inr (.inl h))) (fun h => .inr (.inr (.inr h))), this.2.elim (fun h => .inl (.inr (.inr h))) .inr⟩
def Good (S : Sk) (f t : ByteArray) : Prop := (f :: (S.mids ++ [t])).Nodup
/-- What Good says of the parts. -/
theorem good_iff {S : Sk} {f t : ByteArray} : Good S f t ↔ f ∉ S.mids ∧ f ≠ t ∧ t ∉ S.mids ∧ S.mids.Nodup := by
  unfold Good
  rw [List.nodup_cons, List.nodup_append]
  simp only [List.mem_append, List.mem_cons, List.not_mem_nil, or_false, not_or]
  constructor
  · rintro ⟨⟨h1, h2⟩, h3, h4, h5⟩
    exact ⟨h1, h2, fun h => h5 t h t rfl rfl, h3⟩
  · rintro ⟨h1, h2, h3, h4⟩
    exact ⟨⟨h1, h2⟩, h4, by simp, fun a ha b hb e => by subst hb; subst e; exact h3 ha⟩
structure GoodPar (a b : Sk) (f t : ByteArray) : Prop where
  ga : Good a f t
  gb : Good b f t
  dis : ∀ x, x ∈ a.mids → x ∈ b.mids → False
structure GoodSer (a : Sk) (m : ByteArray) (b : Sk) (f t : ByteArray) : Prop where
  ga : Good a f m
  gb : Good b m t
  dis : ∀ x, x ∈ a.mids → x ∈ b.mids → False
  fb : f ∉ b.mids
  ta : t ∉ a.mids
  ma : m ∉ a.mids
  mb : m ∉ b.mids
  fm : f ≠ m
  mt : m ≠ t
  ft : f ≠ t
  fa : f ∉ a.mids
  tb : t ∉ b.mids
theorem Good.par {a b : Sk} {f t : ByteArray} (h : Good (.par a b) f t) : GoodPar a b f t := by
  rw [good_iff] at h
  obtain ⟨h1, h2, h3, h4⟩ := h
  simp only [Sk.mids, List.mem_append, not_or, List.nodup_append] at h1 h3 h4
  exact ⟨good_iff.2 ⟨h1.1, h2, h3.1, h4.1⟩, good_iff.2 ⟨h1.2, h2, h3.2, h4.2.1⟩, fun x hx hy => h4.2.2 x hx x hy rfl⟩
theorem Good.ser {a b : Sk} {m f t : ByteArray} (h : Good (.ser a m b) f t) : GoodSer a m b f t := by
  rw [good_iff] at h
  obtain ⟨h1, h2, h3, h4⟩ := h
  simp only [Sk.mids, List.mem_append, List.mem_cons, not_or, List.nodup_append, List.nodup_cons] at h1 h3 h4
  obtain ⟨f1, f2, f3⟩ := h1
  obtain ⟨t1, t2, t3⟩ := h3
  obtain ⟨n1, ⟨n2, n3⟩, n4⟩ := h4
  have ma : m ∉ a.mids := fun hm => n4 m hm m (.inl rfl) rfl
  exact ⟨good_iff.2 ⟨f1, f2, ma, n1⟩, good_iff.2 ⟨n2, fun e => t2 e.symm, t3, n3⟩, fun x hx hy => n4 x hx x (.inr hy) rfl, f3, t1, ma, n2, f2, fun e => t2 e.symm, h2, f1, t3⟩
theorem Good.frm {S : Sk} {f t : ByteArray} (h : Good S f t) {x : Edge} (hx : x ∈ S.es f t) : x.frm ≠ t := fun e => by
  have := (S.ends hx).1
  rw [good_iff] at h
  rw [e] at this
  rcases List.mem_cons.1 this with h1 | h1
  · exact h.2.1 h1.symm
  · exact h.2.2.1 h1
theorem Good.to {S : Sk} {f t : ByteArray} (h : Good S f t) {x : Edge} (hx : x ∈ S.es f t) : x.to ≠ f := fun e => by
  have := (S.ends hx).2
  rw [good_iff] at h
  rw [e] at this
  rcases List.mem_append.1 this with h1 | h1
  · exact h.1 h1
  · exact h.2.1 (by simpa using h1)
theorem Sk.hasTo : ∀ (S : Sk) (f t : ByteArray), ∃ z, z ∈ S.es f t ∧ z.to = t
  | .e x, f, t => ⟨⟨f, t, x⟩, by simp [Sk.es], rfl⟩
  | .par a b, f, t => by obtain ⟨z, hz, h⟩ := hasTo a f t; exact ⟨z, List.mem_append_left _ hz, h⟩
  | .ser a m b, f, t => by obtain ⟨z, hz, h⟩ := hasTo b m t; exact ⟨z, List.mem_append_right _ hz, h⟩
theorem Sk.hasFrm : ∀ (S : Sk) (f t : ByteArray), ∃ z, z ∈ S.es f t ∧ z.frm = f
  | .e x, f, t => ⟨⟨f, t, x⟩, by simp [Sk.es], rfl⟩
  | .par a b, f, t => by obtain ⟨z, hz, h⟩ := hasFrm a f t; exact ⟨z, List.mem_append_left _ hz, h⟩
  | .ser a m b, f, t => by obtain ⟨z, hz, h⟩ := hasFrm a f m; exact ⟨z, List.mem_append_left _ hz, h⟩

/-- Two skeletons of the same graph and the same tree. -/
structure Eqv (S S' : Sk) : Prop where
  es : ∀ f t, (S.es f t).Perm (S'.es f t)
  mids : S.mids.Perm S'.mids
  lv : S.lv.Perm S'.lv
  ok : S.ok → S'.ok
  can : S.ok → S.lv.Nodup → srtT S'.tr = srtT S.tr
theorem Eqv.refl (S : Sk) : Eqv S S := ⟨fun _ _ => List.Perm.refl _, List.Perm.refl _, List.Perm.refl _, id, fun _ _ => rfl⟩
theorem Eqv.trans {A B C : Sk} (h : Eqv A B) (k : Eqv B C) : Eqv A C :=
  ⟨fun f t => (h.es f t).trans (k.es f t), h.mids.trans k.mids, h.lv.trans k.lv, fun o => k.ok (h.ok o), fun o n => (k.can (h.ok o) (h.lv.nodup_iff.1 n)).trans (h.can o n)⟩
theorem par_okn {a b : Sk} (o : (Sk.par a b).ok) (n : (Sk.par a b).lv.Nodup) : (joinT 2 a.tr b.tr).ok ∧ (joinT 2 a.tr b.tr).leaves.Nodup :=
  ⟨Sk.tr_ok (S := .par a b) o, by have := Sk.tr_leaves (.par a b); rw [show (joinT 2 a.tr b.tr).leaves = (Sk.par a b).lv from this]; exact n⟩
theorem ser_okn {a b : Sk} {m : ByteArray} (o : (Sk.ser a m b).ok) (n : (Sk.ser a m b).lv.Nodup) : (joinT 1 a.tr b.tr).ok ∧ (joinT 1 a.tr b.tr).leaves.Nodup :=
  ⟨Sk.tr_ok (S := .ser a m b) o, by have := Sk.tr_leaves (.ser a m b); rw [show (joinT 1 a.tr b.tr).leaves = (Sk.ser a m b).lv from this]; exact n⟩
theorem Eqv.comm (a b : Sk) : Eqv (.par a b) (.par b a) :=
  ⟨fun _ _ => List.perm_append_comm, List.perm_append_comm, List.perm_append_comm, fun o => ⟨o.2, o.1⟩, fun o n => (joinT_comm (par_okn o n).1 (par_okn o n).2).symm⟩
theorem Eqv.assoc (a b c : Sk) : Eqv (.par (.par a b) c) (.par a (.par b c)) :=
  ⟨fun _ _ => by simp [Sk.es], by simp [Sk.mids], by simp [Sk.lv], fun o => ⟨o.1.1, o.1.2, o.2⟩, fun _ _ => by simp only [Sk.tr, joinT_assoc]⟩
theorem Eqv.assoc' (a b c : Sk) : Eqv (.par a (.par b c)) (.par (.par a b) c) :=
  ⟨fun _ _ => by simp [Sk.es], by simp [Sk.mids], by simp [Sk.lv], fun o => ⟨⟨o.1, o.2.1⟩, o.2.2⟩, fun _ _ => by simp only [Sk.tr, joinT_assoc]⟩
theorem Eqv.sassoc (a b c : Sk) (m k : ByteArray) : Eqv (.ser (.ser a m b) k c) (.ser a m (.ser b k c)) :=
  ⟨fun _ _ => by simp [Sk.es], by simp [Sk.mids], by simp [Sk.lv], fun o => ⟨o.1.1, o.1.2, o.2⟩, fun _ _ => by simp only [Sk.tr, joinT_assoc]⟩
theorem Eqv.sassoc' (a b c : Sk) (m k : ByteArray) : Eqv (.ser a m (.ser b k c)) (.ser (.ser a m b) k c) :=
  ⟨fun _ _ => by simp [Sk.es], by simp [Sk.mids], by simp [Sk.lv], fun o => ⟨⟨o.1, o.2.1⟩, o.2.2⟩, fun _ _ => by simp only [Sk.tr, joinT_assoc]⟩
theorem Eqv.par {a a' b b' : Sk} (h : Eqv a a') (k : Eqv b b') : Eqv (.par a b) (.par a' b') :=
  ⟨fun f t => (h.es f t).append (k.es f t), h.mids.append k.mids, h.lv.append k.lv, fun o => ⟨h.ok o.1, k.ok o.2⟩, fun o n => by
    have n' := List.nodup_append.1 (show (a.lv ++ b.lv).Nodup from n)
    exact (joinT_congr (.inr rfl) (par_okn o n).1 (par_okn o n).2 (h.can o.1 n'.1).symm (k.can o.2 n'.2.1).symm).symm⟩
theorem Eqv.ser {a a' b b' : Sk} (m : ByteArray) (h : Eqv a a') (k : Eqv b b') : Eqv (.ser a m b) (.ser a' m b') :=
  ⟨fun f t => (h.es f m).append (k.es m t), h.mids.append (k.mids.cons m), h.lv.append k.lv, fun o => ⟨h.ok o.1, k.ok o.2⟩, fun o n => by
    have n' := List.nodup_append.1 (show (a.lv ++ b.lv).Nodup from n)
    exact (joinT_congr (.inl rfl) (ser_okn o n).1 (ser_okn o n).2 (h.can o.1 n'.1).symm (k.can o.2 n'.2.1).symm).symm⟩

/-- An edge from end to end comes out. -/
theorem take_edge : ∀ (a : Sk) {f t : ByteArray} {x : Edge} {r : List Edge}, Good a f t → (a.es f t).Perm (x :: r) → x.frm = f → x.to = t → a = .e x.t ∨ ∃ a', Eqv a (.par (.e x.t) a')
  | .e z, f, t, x, r, _, h, _, _ => by
    have hx : x ∈ (Sk.e z).es f t := h.mem_iff.2 List.mem_cons_self
    obtain rfl : x = ⟨f, t, z⟩ := by simpa [Sk.es] using hx
    exact .inl rfl
  | .par a b, f, t, x, r, g, h, h1, h2 => by
    have gp := g.par
    rcases ext1 (A := a.es f t) (B := b.es f t) h with ⟨s, hs, _⟩ | ⟨s, hs, _⟩
    · rcases take_edge a gp.ga hs h1 h2 with rfl | ⟨a', ha⟩
      · exact .inr ⟨b, Eqv.refl _⟩
      · exact .inr ⟨.par a' b, (ha.par (Eqv.refl b)).trans (Eqv.assoc _ _ _)⟩
    · rcases take_edge b gp.gb hs h1 h2 with rfl | ⟨b', hb⟩
      · exact .inr ⟨a, Eqv.comm _ _⟩
      · exact .inr ⟨.par b' a, (Eqv.comm _ _).trans ((hb.par (Eqv.refl a)).trans (Eqv.assoc _ _ _))⟩
  | .ser a m b, f, t, x, r, g, h, h1, h2 => by
    have gs := g.ser
    exfalso
    rcases List.mem_append.1 (show x ∈ a.es f m ++ b.es m t from h.mem_iff.2 List.mem_cons_self) with hx | hx
    · have := (a.ends hx).2
      rw [h2] at this
      rcases List.mem_append.1 this with h' | h'
      · exact gs.ta h'
      · exact gs.mt (List.mem_singleton.1 h').symm
    · have := (b.ends hx).1
      rw [h1] at this
      rcases List.mem_cons.1 this with h' | h'
      · exact gs.fm h'
      · exact gs.fb h'
/-- The one edge that enters the end comes out. -/
theorem take_last : ∀ (a : Sk) {f t : ByteArray} {x : Edge} {r : List Edge}, Good a f t → (a.es f t).Perm (x :: r) → x.to = t → (∀ z, z ∈ r → z.to ≠ t) → a = .e x.t ∨ ∃ a', Eqv a (.ser a' x.frm (.e x.t))
  | .e z, f, t, x, r, _, h, _, _ => by
    have hx : x ∈ (Sk.e z).es f t := h.mem_iff.2 List.mem_cons_self
    obtain rfl : x = ⟨f, t, z⟩ := by simpa [Sk.es] using hx
    exact .inl rfl
  | .par a b, f, t, x, r, g, h, h1, h2 => by
    exfalso
    rcases ext1 (A := a.es f t) (B := b.es f t) h with ⟨s, hs, hr⟩ | ⟨s, hs, hr⟩
    · obtain ⟨z, hz, hzt⟩ := b.hasTo f t
      exact h2 z (hr.mem_iff.2 (List.mem_append_right _ hz)) hzt
    · obtain ⟨z, hz, hzt⟩ := a.hasTo f t
      exact h2 z (hr.mem_iff.2 (List.mem_append_left _ hz)) hzt
  | .ser a m b, f, t, x, r, g, h, h1, h2 => by
    have gs := g.ser
    rcases ext1 (A := a.es f m) (B := b.es m t) h with ⟨s, hs, hr⟩ | ⟨s, hs, hr⟩
    · exfalso
      have := (a.ends (hs.mem_iff.2 List.mem_cons_self)).2
      rw [h1] at this
      rcases List.mem_append.1 this with h' | h'
      · exact gs.ta h'
      · exact gs.mt (List.mem_singleton.1 h').symm
    · rcases take_last b gs.gb hs h1 (fun z hz => h2 z (hr.mem_iff.2 (List.mem_append_right _ hz))) with hb | ⟨b', hb⟩
      · have hx : x ∈ b.es m t := hs.mem_iff.2 List.mem_cons_self
        rw [hb] at hx
        have hx' : x = ⟨m, t, x.t⟩ := by simpa [Sk.es] using hx
        have hf : x.frm = m := by rw [hx']
        rw [hb, hf]
        exact .inr ⟨a, Eqv.refl _⟩
      · exact .inr ⟨.ser a m b', (Eqv.ser m (Eqv.refl a) hb).trans (Eqv.sassoc' _ _ _ _ _)⟩
/-- The one edge that leaves the beginning comes out. -/
theorem take_first : ∀ (a : Sk) {f t : ByteArray} {x : Edge} {r : List Edge}, Good a f t → (a.es f t).Perm (x :: r) → x.frm = f → (∀ z, z ∈ r → z.frm ≠ f) → a = .e x.t ∨ ∃ a', Eqv a (.ser (.e x.t) x.to a')
  | .e z, f, t, x, r, _, h, _, _ => by
    have hx : x ∈ (Sk.e z).es f t := h.mem_iff.2 List.mem_cons_self
    obtain rfl : x = ⟨f, t, z⟩ := by simpa [Sk.es] using hx
    exact .inl rfl
  | .par a b, f, t, x, r, g, h, h1, h2 => by
    exfalso
    rcases ext1 (A := a.es f t) (B := b.es f t) h with ⟨s, hs, hr⟩ | ⟨s, hs, hr⟩
    · obtain ⟨z, hz, hzt⟩ := b.hasFrm f t
      exact h2 z (hr.mem_iff.2 (List.mem_append_right _ hz)) hzt
    · obtain ⟨z, hz, hzt⟩ := a.hasFrm f t
      exact h2 z (hr.mem_iff.2 (List.mem_append_left _ hz)) hzt
  | .ser a m b, f, t, x, r, g, h, h1, h2 => by
    have gs := g.ser
    rcases ext1 (A := a.es f m) (B := b.es m t) h with ⟨s, hs, hr⟩ | ⟨s, hs, hr⟩
    · rcases take_first a gs.ga hs h1 (fun z hz => h2 z (hr.mem_iff.2 (List.mem_append_left _ hz))) with ha | ⟨a', ha⟩
      · have hx : x ∈ a.es f m := hs.mem_iff.2 List.mem_cons_self
        rw [ha] at hx
        have hx' : x = ⟨f, m, x.t⟩ := by simpa [Sk.es] using hx
        have hf : x.to = m := by rw [hx']
        rw [ha, hf]
        exact .inr ⟨b, Eqv.refl _⟩
      · exact .inr ⟨.ser a' m b, (Eqv.ser m ha (Eqv.refl b)).trans (Eqv.sassoc _ _ _ _ _)⟩
    · exfalso
      have := (b.ends (hs.mem_iff.2 List.mem_cons_self)).1
      rw [h1] at this
      rcases List.mem_cons.1 this with h' | h'
      · exact gs.fm h'
      · exact gs.fb h'
/-- Two edges of a skeleton have become one. -/
structure Out (S S' : Sk) (f t : ByteArray) (x y new : Edge) (rest : List Edge) (gone : List ByteArray) : Prop where
  src : (S.es f t).Perm (x :: y :: rest)
  es : (S'.es f t).Perm (new :: rest)
  mids : S.mids.Perm (gone ++ S'.mids)
  lv : S.lv.Perm S'.lv
  ok : S.ok → S'.ok
  can : S.ok → S.lv.Nodup → srtT S'.tr = srtT S.tr
theorem Out.eqv {S S1 S' : Sk} {f t : ByteArray} {x y new : Edge} {rest : List Edge} {gone : List ByteArray} (h : Eqv S S1) (o : Out S1 S' f t x y new rest gone) : Out S S' f t x y new rest gone :=
  ⟨(h.es f t).trans o.src, o.es, h.mids.trans o.mids, h.lv.trans o.lv, fun k => o.ok (h.ok k), fun k n => (o.can (h.ok k) (h.lv.nodup_iff.1 n)).trans (h.can k n)⟩
theorem Out.cut {S S' : Sk} {f t : ByteArray} {x y new : Edge} {rest rest' : List Edge} {gone : List ByteArray} (o : Out S S' f t x y new rest gone) (h : (S.es f t).Perm (x :: y :: rest')) : Out S S' f t x y new rest' gone :=
  ⟨h, o.es.trans ((List.Perm.cons_inv (List.Perm.cons_inv (o.src.symm.trans h))).cons new), o.mids, o.lv, o.ok, o.can⟩
theorem Out.parL {a a' : Sk} (b : Sk) {f t : ByteArray} {x y new : Edge} {rest : List Edge} {gone : List ByteArray} (o : Out a a' f t x y new rest gone) : Out (.par a b) (.par a' b) f t x y new (rest ++ b.es f t) gone :=
  ⟨o.src.append_right _, o.es.append_right _, by simpa [Sk.mids] using o.mids.append_right b.mids, o.lv.append_right _, fun k => ⟨o.ok k.1, k.2⟩, fun k n => by
    have n' := List.nodup_append.1 (show (a.lv ++ b.lv).Nodup from n)
    exact (joinT_congr (.inr rfl) (par_okn k n).1 (par_okn k n).2 (o.can k.1 n'.1).symm rfl).symm⟩
theorem swap_app {α : Type} {A B : List α} {x : α} : (A ++ x :: B).Perm (x :: (A ++ B)) := List.perm_middle
theorem Out.parR {b b' : Sk} (a : Sk) {f t : ByteArray} {x y new : Edge} {rest : List Edge} {gone : List ByteArray} (o : Out b b' f t x y new rest gone) : Out (.par a b) (.par a b') f t x y new (a.es f t ++ rest) gone :=
  ⟨(o.src.append_left _).trans (swap_app.trans (swap_app.cons x)), (o.es.append_left _).trans swap_app, (o.mids.append_left a.mids).trans (by
      show (a.mids ++ (gone ++ b'.mids)).Perm (gone ++ (a.mids ++ b'.mids))
      rw [← List.append_assoc, ← List.append_assoc]
      exact List.perm_append_comm.append_right _), o.lv.append_left _, fun k => ⟨k.1, o.ok k.2⟩, fun k n => by
    have n' := List.nodup_append.1 (show (a.lv ++ b.lv).Nodup from n)
    exact (joinT_congr (.inr rfl) (par_okn k n).1 (par_okn k n).2 rfl (o.can k.2 n'.2.1).symm).symm⟩
theorem Out.serL {a a' : Sk} (m : ByteArray) (b : Sk) {f t : ByteArray} {x y new : Edge} {rest : List Edge} {gone : List ByteArray} (o : Out a a' f m x y new rest gone) : Out (.ser a m b) (.ser a' m b) f t x y new (rest ++ b.es m t) gone :=
  ⟨o.src.append_right _, o.es.append_right _, by simpa [Sk.mids] using o.mids.append_right (m :: b.mids), o.lv.append_right _, fun k => ⟨o.ok k.1, k.2⟩, fun k n => by
    have n' := List.nodup_append.1 (show (a.lv ++ b.lv).Nodup from n)
    exact (joinT_congr (.inl rfl) (ser_okn k n).1 (ser_okn k n).2 (o.can k.1 n'.1).symm rfl).symm⟩
theorem Out.serR {b b' : Sk} (m : ByteArray) (a : Sk) {f t : ByteArray} {x y new : Edge} {rest : List Edge} {gone : List ByteArray} (o : Out b b' m t x y new rest gone) : Out (.ser a m b) (.ser a m b') f t x y new (a.es f m ++ rest) gone :=
  ⟨(o.src.append_left _).trans (swap_app.trans (swap_app.cons x)), (o.es.append_left _).trans swap_app, ((o.mids.cons m).append_left a.mids).trans (by
      show (a.mids ++ m :: (gone ++ b'.mids)).Perm (gone ++ (a.mids ++ m :: b'.mids))
      rw [← List.append_assoc]
      refine List.Perm.trans ?_ (List.perm_append_comm.append_right _)
      rw [List.append_assoc]
      refine List.Perm.append_left _ ?_
      exact swap_app.symm), o.lv.append_left _, fun k => ⟨k.1, o.ok k.2⟩, fun k n => by
    have n' := List.nodup_append.1 (show (a.lv ++ b.lv).Nodup from n)
    exact (joinT_congr (.inl rfl) (ser_okn k n).1 (ser_okn k n).2 rfl (o.can k.2 n'.2.1).symm).symm⟩
theorem Out.par0 (x y : PT) (f t : ByteArray) : Out (.par (.e x) (.e y)) (.e (joinT 2 x y)) f t ⟨f, t, x⟩ ⟨f, t, y⟩ ⟨f, t, joinT 2 x y⟩ [] [] :=
  ⟨List.Perm.refl _, List.Perm.refl _, List.Perm.refl _, by rw [Sk.lv, Sk.lv, Sk.lv, Sk.lv, joinT_leaves (.inr rfl)], fun o => joinT_ok (.inr rfl) o.1 o.2, fun _ _ => rfl⟩
theorem Out.ser0 (x y : PT) (f m t : ByteArray) : Out (.ser (.e x) m (.e y)) (.e (joinT 1 x y)) f t ⟨f, m, x⟩ ⟨m, t, y⟩ ⟨f, t, joinT 1 x y⟩ [] [m] :=
  ⟨List.Perm.refl _, List.Perm.refl _, List.Perm.refl _, by rw [Sk.lv, Sk.lv, Sk.lv, Sk.lv, joinT_leaves (.inl rfl)], fun o => joinT_ok (.inl rfl) o.1 o.2, fun _ _ => rfl⟩
theorem Out.sym {S S' : Sk} {f t : ByteArray} {x y new : Edge} {rest : List Edge} {gone : List ByteArray} (o : Out S S' f t x y new rest gone) : Out S S' f t y x new rest gone :=
  ⟨o.src.trans (List.Perm.swap _ _ _), o.es, o.mids, o.lv, o.ok, o.can⟩

/-! ### Parallel reductions -/
theorem par_two {a b : Sk} {f t : ByteArray} {x y : Edge} {r s : List Edge} (ga : Good a f t) (gb : Good b f t) (ha : (a.es f t).Perm (x :: r)) (hb : (b.es f t).Perm (y :: s)) (hx1 : x.frm = f) (hx2 : x.to = t) (hy1 : y.frm = f) (hy2 : y.to = t) :
    ∃ S' rest, Out (.par a b) S' f t x y ⟨f, t, joinT 2 x.t y.t⟩ rest [] := by
  obtain ⟨p, q, x⟩ := x
  obtain ⟨p', q', y⟩ := y
  simp only at hx1 hx2 hy1 hy2
  subst hx1 hx2 hy1 hy2
  have base := Out.par0 x y p' q'
  rcases take_edge a ga ha rfl rfl with h1 | ⟨a', h1⟩
  · rcases take_edge b gb hb rfl rfl with h2 | ⟨b', h2⟩
    · rw [h1, h2]; exact ⟨_, _, base⟩
    · rw [h1]
      exact ⟨_, _, Out.eqv ((Eqv.refl _).par h2) (Out.eqv (Eqv.assoc' _ _ _) (base.parL b'))⟩
  · rcases take_edge b gb hb rfl rfl with h2 | ⟨b', h2⟩
    · rw [h2]
      exact ⟨_, _, Out.eqv (h1.par (Eqv.refl _)) (Out.eqv (Eqv.assoc _ _ _) (Out.eqv ((Eqv.refl _).par (Eqv.comm _ _)) (Out.eqv (Eqv.assoc' _ _ _) (base.parL a'))))⟩
    · exact ⟨_, _, Out.eqv (h1.par h2) (Out.eqv (Eqv.assoc _ _ _) (Out.eqv ((Eqv.refl _).par ((Eqv.comm _ _).trans (Eqv.assoc _ _ _))) (Out.eqv (Eqv.assoc' _ _ _) (base.parL (.par b' a')))))⟩
theorem par_red : ∀ (S : Sk) {f t : ByteArray} {x y : Edge} {rest : List Edge}, Good S f t → (S.es f t).Perm (x :: y :: rest) → y.frm = x.frm → y.to = x.to → ∃ S' rest', Out S S' f t x y ⟨x.frm, x.to, joinT 2 x.t y.t⟩ rest' []
  | .e z, f, t, x, y, rest, _, h, _, _ => by
    have := h.length_eq
    simp [Sk.es] at this
  | .par a b, f, t, x, y, rest, g, h, h1, h2 => by
    have gp := g.par
    have cross : ∀ {u v : Edge}, u ∈ a.es f t → v ∈ b.es f t → u.frm = v.frm → u.to = v.to → u.frm = f ∧ u.to = t := by
      intro u v hu hv e1 e2
      have hu' := a.ends hu
      have hv' := b.ends hv
      rw [← e1, ← e2] at hv'
      constructor
      · rcases List.mem_cons.1 hu'.1 with h' | h'
        · exact h'
        · rcases List.mem_cons.1 hv'.1 with h'' | h''
          · exact h''
          · exact (gp.dis _ h' h'').elim
      · rcases List.mem_append.1 hu'.2 with h' | h'
        · rcases List.mem_append.1 hv'.2 with h'' | h''
          · exact (gp.dis _ h' h'').elim
          · simpa using h''
        · simpa using h'
    cases ext2 (A := a.es f t) (B := b.es f t) h with
    | left r hr _ =>
      obtain ⟨a', r', o⟩ := par_red a gp.ga hr h1 h2
      exact ⟨_, _, o.parL b⟩
    | right r hr _ =>
      obtain ⟨b', r', o⟩ := par_red b gp.gb hr h1 h2
      exact ⟨_, _, o.parR a⟩
    | both r s ha hb _ =>
      obtain ⟨e1, e2⟩ := cross (ha.mem_iff.2 List.mem_cons_self) (hb.mem_iff.2 List.mem_cons_self) h1.symm h2.symm
      obtain ⟨S', r', o⟩ := par_two gp.ga gp.gb ha hb e1 e2 (h1.trans e1) (h2.trans e2)
      rw [e1, e2]
      exact ⟨S', r', o⟩
    | turned r s ha hb _ =>
      obtain ⟨e1, e2⟩ := cross (ha.mem_iff.2 List.mem_cons_self) (hb.mem_iff.2 List.mem_cons_self) h1 h2
      rw [h1] at e1
      rw [h2] at e2
      obtain ⟨S', r', o⟩ := par_two gp.gb gp.ga hb ha e1 e2 (h1.trans e1) (h2.trans e2)
      rw [e1, e2]
      exact ⟨S', r', Out.eqv (Eqv.comm _ _) o⟩
  | .ser a m b, f, t, x, y, rest, g, h, h1, h2 => by
    have gs := g.ser
    have cross : ∀ {u v : Edge}, u ∈ a.es f m → v ∈ b.es m t → u.frm = v.frm → False := by
      intro u v hu hv e1
      have hu' := (a.ends hu).1
      have hv' := (b.ends hv).1
      rw [← e1] at hv'
      rcases List.mem_cons.1 hv' with h'' | h''
      · exact gs.ga.frm hu h''
      · rcases List.mem_cons.1 hu' with h' | h'
        · rw [h'] at h''; exact gs.fb h''
        · exact gs.dis _ h' h''
    cases ext2 (A := a.es f m) (B := b.es m t) h with
    | left r hr _ =>
      obtain ⟨a', r', o⟩ := par_red a gs.ga hr h1 h2
      exact ⟨_, _, o.serL m b⟩
    | right r hr _ =>
      obtain ⟨b', r', o⟩ := par_red b gs.gb hr h1 h2
      exact ⟨_, _, o.serR m a⟩
    | both r s ha hb _ => exact (cross (ha.mem_iff.2 List.mem_cons_self) (hb.mem_iff.2 List.mem_cons_self) h1.symm).elim
    | turned r s ha hb _ => exact (cross (ha.mem_iff.2 List.mem_cons_self) (hb.mem_iff.2 List.mem_cons_self) h1).elim
/-! ### Series reductions -/
theorem ser_two {a b : Sk} {f k t : ByteArray} {x y : Edge} {r s : List Edge} (ga : Good a f k) (gb : Good b k t) (ha : (a.es f k).Perm (x :: r)) (hb : (b.es k t).Perm (y :: s)) (hx : x.to = k) (hy : y.frm = k) (hr : ∀ z, z ∈ r → z.to ≠ k) (hs : ∀ z, z ∈ s → z.frm ≠ k) :
    ∃ S' rest, Out (.ser a k b) S' f t x y ⟨x.frm, y.to, joinT 1 x.t y.t⟩ rest [k] := by
  have hxa : x ∈ a.es f k := ha.mem_iff.2 List.mem_cons_self
  have hyb : y ∈ b.es k t := hb.mem_iff.2 List.mem_cons_self
  obtain ⟨p, q, x⟩ := x
  obtain ⟨p', q', y⟩ := y
  simp only at hx hy
  subst hx hy
  rcases take_last a ga ha rfl hr with h1 | ⟨a', h1⟩
  · have hpf : p = f := by rw [h1] at hxa; simp [Sk.es] at hxa; exact hxa
    subst hpf
    rcases take_first b gb hb rfl hs with h2 | ⟨b', h2⟩
    · have hqt : q' = t := by rw [h2] at hyb; simp [Sk.es] at hyb; exact hyb
      subst hqt
      rw [h1, h2]; exact ⟨_, _, Out.ser0 x y _ _ _⟩
    · rw [h1]
      exact ⟨_, _, Out.eqv (Eqv.ser _ (Eqv.refl _) h2) (Out.eqv (Eqv.sassoc' _ _ _ _ _) ((Out.ser0 x y _ _ _).serL q' b'))⟩
  · rcases take_first b gb hb rfl hs with h2 | ⟨b', h2⟩
    · have hqt : q' = t := by rw [h2] at hyb; simp [Sk.es] at hyb; exact hyb
      subst hqt
      rw [h2]
      exact ⟨_, _, Out.eqv (Eqv.ser _ h1 (Eqv.refl _)) (Out.eqv (Eqv.sassoc _ _ _ _ _) ((Out.ser0 x y _ _ _).serR p a'))⟩
    · exact ⟨_, _, Out.eqv (Eqv.ser _ h1 h2) (Out.eqv (Eqv.sassoc _ _ _ _ _) (Out.eqv (Eqv.ser _ (Eqv.refl _) (Eqv.sassoc' _ _ _ _ _)) (((Out.ser0 x y _ _ _).serL q' b').serR p a')))⟩
theorem ser_red : ∀ (S : Sk) {f t : ByteArray} {x y : Edge} {rest : List Edge}, Good S f t → (S.es f t).Perm (x :: y :: rest) → y.frm = x.to → x.to ≠ f → x.to ≠ t → (∀ z, z ∈ rest → z.to ≠ x.to) → (∀ z, z ∈ rest → z.frm ≠ x.to) → ∃ S' rest', Out S S' f t x y ⟨x.frm, y.to, joinT 1 x.t y.t⟩ rest' [x.to]
  | .e z, f, t, x, y, rest, _, h, _, _, _, _, _ => by
    have := h.length_eq
    simp [Sk.es] at this
  | .par a b, f, t, x, y, rest, g, h, h1, h2, h3, h4, h5 => by
    have gp := g.par
    have mem_to : ∀ {S : Sk} {u : Edge}, u ∈ S.es f t → u.to = x.to → x.to ∈ S.mids := by
      intro S u hu e
      have := (S.ends hu).2
      rw [e] at this
      rcases List.mem_append.1 this with h' | h'
      · exact h'
      · exact absurd (by simpa using h') h3
    have mem_frm : ∀ {S : Sk} {u : Edge}, u ∈ S.es f t → u.frm = x.to → x.to ∈ S.mids := by
      intro S u hu e
      have := (S.ends hu).1
      rw [e] at this
      rcases List.mem_cons.1 this with h' | h'
      · exact absurd h' h2
      · exact h'
    cases ext2 (A := a.es f t) (B := b.es f t) h with
    | left r hr hrest =>
      obtain ⟨a', r', o⟩ := ser_red a gp.ga hr h1 h2 h3 (fun z hz => h4 z (hrest.mem_iff.2 (List.mem_append_left _ hz))) (fun z hz => h5 z (hrest.mem_iff.2 (List.mem_append_left _ hz)))
      exact ⟨_, _, o.parL b⟩
    | right r hr hrest =>
      obtain ⟨b', r', o⟩ := ser_red b gp.gb hr h1 h2 h3 (fun z hz => h4 z (hrest.mem_iff.2 (List.mem_append_right _ hz))) (fun z hz => h5 z (hrest.mem_iff.2 (List.mem_append_right _ hz)))
      exact ⟨_, _, o.parR a⟩
    | both r s ha hb _ => exact (gp.dis _ (mem_to (ha.mem_iff.2 List.mem_cons_self) rfl) (mem_frm (hb.mem_iff.2 List.mem_cons_self) h1)).elim
    | turned r s ha hb _ => exact (gp.dis _ (mem_frm (ha.mem_iff.2 List.mem_cons_self) h1) (mem_to (hb.mem_iff.2 List.mem_cons_self) rfl)).elim
  | .ser a k b, f, t, x, y, rest, g, h, h1, h2, h3, h4, h5 => by
    have gs := g.ser
    cases ext2 (A := a.es f k) (B := b.es k t) h with
    | left r hr hrest =>
      have hk : x.to ≠ k := fun e => gs.ga.frm (hr.mem_iff.2 (List.mem_cons_of_mem _ List.mem_cons_self)) (h1.trans e)
      obtain ⟨a', r', o⟩ := ser_red a gs.ga hr h1 h2 hk (fun z hz => h4 z (hrest.mem_iff.2 (List.mem_append_left _ hz))) (fun z hz => h5 z (hrest.mem_iff.2 (List.mem_append_left _ hz)))
      exact ⟨_, _, o.serL k b⟩
    | right r hr hrest =>
      have hk : x.to ≠ k := gs.gb.to (hr.mem_iff.2 List.mem_cons_self)
      obtain ⟨b', r', o⟩ := ser_red b gs.gb hr h1 hk h3 (fun z hz => h4 z (hrest.mem_iff.2 (List.mem_append_right _ hz))) (fun z hz => h5 z (hrest.mem_iff.2 (List.mem_append_right _ hz)))
      exact ⟨_, _, o.serR k a⟩
    | both r s ha hb hrest =>
      have hk : x.to = k := by
        have e1 := (a.ends (ha.mem_iff.2 (List.mem_cons_self (a := x)))).2
        have e2 := (b.ends (hb.mem_iff.2 (List.mem_cons_self (a := y)))).1
        rw [h1] at e2
        rcases List.mem_append.1 e1 with h' | h'
        · rcases List.mem_cons.1 e2 with h'' | h''
          · exact h''
          · exact (gs.dis _ h' h'').elim
        · simpa using h'
      obtain ⟨S', r', o⟩ := ser_two gs.ga gs.gb ha hb hk (h1.trans hk) (fun z hz e => h4 z (hrest.mem_iff.2 (List.mem_append_left _ hz)) (e.trans hk.symm)) (fun z hz e => h5 z (hrest.mem_iff.2 (List.mem_append_right _ hz)) (e.trans hk.symm))
      rw [hk]
      exact ⟨S', r', o⟩
    | turned r s ha hb hrest =>
      exfalso
      have e1 := (a.ends (ha.mem_iff.2 (List.mem_cons_self (a := y)))).1
      have e2 := (b.ends (hb.mem_iff.2 (List.mem_cons_self (a := x)))).2
      rw [h1] at e1
      rcases List.mem_cons.1 e1 with h' | h'
      · exact h2 h'
      · rcases List.mem_append.1 e2 with h'' | h''
        · exact gs.dis _ h' h''
        · exact h3 (by simpa using h'')
/-! ### What is not reduced to one edge can be reduced -/
theorem notouch_to {S : Sk} {f t m : ByteArray} (h1 : m ∉ S.mids) (h2 : m ≠ t) : comes m (S.es f t) = 0 := by
  unfold comes
  rw [List.countP_eq_zero]
  intro z hz
  have := (S.ends hz).2
  simp only [decide_eq_true_eq]
  intro e
  rw [e] at this
  rcases List.mem_append.1 this with h' | h'
  · exact h1 h'
  · exact h2 (by simpa using h')
theorem notouch_frm {S : Sk} {f t m : ByteArray} (h1 : m ∉ S.mids) (h2 : m ≠ f) : leaves m (S.es f t) = 0 := by
  unfold leaves
  rw [List.countP_eq_zero]
  intro z hz
  have := (S.ends hz).1
  simp only [decide_eq_true_eq]
  intro e
  rw [e] at this
  rcases List.mem_cons.1 this with h' | h'
  · exact h2 h'
  · exact h1 h'
theorem comes_append (m : ByteArray) (A B : List Edge) : comes m (A ++ B) = comes m A + comes m B := List.countP_append ..
theorem leaves_append (m : ByteArray) (A B : List Edge) : leaves m (A ++ B) = leaves m A + leaves m B := List.countP_append ..
def Same2 (x y : Edge) : Prop := y.frm = x.frm ∧ y.to = x.to
theorem redu : ∀ (S : Sk) {f t : ByteArray}, Good S f t → (∃ x, S = .e x) ∨ ¬ (S.es f t).Pairwise (fun x y => ¬ Same2 x y) ∨ ∃ m, m ∈ S.mids ∧ comes m (S.es f t) = 1 ∧ leaves m (S.es f t) = 1
  | .e x, _, _, _ => .inl ⟨x, rfl⟩
  | .par a b, f, t, g => by
    have gp := g.par
    have ga := good_iff.1 gp.ga
    have gb := good_iff.1 gp.gb
    right
    rcases redu a gp.ga with ⟨x, rfl⟩ | h | ⟨m, hm, h1, h2⟩
    · rcases redu b gp.gb with ⟨y, rfl⟩ | h | ⟨m, hm, h1, h2⟩
      · left
        intro h
        simp [Sk.es, Same2] at h
      · left
        exact fun h' => h (List.pairwise_append.1 h').2.1
      · right
        refine ⟨m, List.mem_append_right _ hm, ?_, ?_⟩
        · rw [Sk.es, comes_append, h1, notouch_to (S := .e x) (t := t) (m := m) (by simp [Sk.mids]) (fun e => gb.2.2.1 (e ▸ hm))]
        · rw [Sk.es, leaves_append, h2, notouch_frm (S := .e x) (f := f) (m := m) (by simp [Sk.mids]) (fun e => gb.1 (e ▸ hm))]
    · left
      exact fun h' => h (List.pairwise_append.1 h').1
    · right
      refine ⟨m, List.mem_append_left _ hm, ?_, ?_⟩
      · rw [Sk.es, comes_append, h1, notouch_to (S := b) (t := t) (m := m) (fun h => gp.dis _ hm h) (fun e => ga.2.2.1 (e ▸ hm))]
      · rw [Sk.es, leaves_append, h2, notouch_frm (S := b) (f := f) (m := m) (fun h => gp.dis _ hm h) (fun e => ga.1 (e ▸ hm))]
  | .ser a k b, f, t, g => by
    have gs := g.ser
    right
    rcases redu a gs.ga with ⟨x, rfl⟩ | h | ⟨m, hm, h1, h2⟩
    · rcases redu b gs.gb with ⟨y, rfl⟩ | h | ⟨m, hm, h1, h2⟩
      · right
        refine ⟨k, by simp [Sk.mids], ?_, ?_⟩
        · simp [Sk.es, comes, Ne.symm gs.mt]
        · simp [Sk.es, leaves, gs.fm]
      · left
        exact fun h' => h (List.pairwise_append.1 h').2.1
      · right
        refine ⟨m, List.mem_append_right _ (List.mem_cons_of_mem _ hm), ?_, ?_⟩
        · rw [Sk.es, comes_append, h1, notouch_to (S := .e x) (t := k) (m := m) (by simp [Sk.mids]) (fun e => gs.mb (e ▸ hm))]
        · rw [Sk.es, leaves_append, h2, notouch_frm (S := .e x) (f := f) (m := m) (by simp [Sk.mids]) (fun e => gs.fb (e ▸ hm))]
    · left
      exact fun h' => h (List.pairwise_append.1 h').1
    · right
      refine ⟨m, List.mem_append_left _ hm, ?_, ?_⟩
      · rw [Sk.es, comes_append, h1, notouch_to (S := b) (t := t) (m := m) (fun h => gs.dis _ hm h) (fun e => gs.ta (e ▸ hm))]
      · rw [Sk.es, leaves_append, h2, notouch_frm (S := b) (f := k) (m := m) (fun h => gs.dis _ hm h) (fun e => gs.ma (e ▸ hm))]
end Go.Proofs.YtolggjmgfijjfaaGreatDoor.Sep

/- Reducing a list of edges that is a skeleton's; the graph of an expanded tree. Nothing here speaks of a program. -/
namespace Go.Proofs.YtolggjmgfijjfaaGreatDoor.Sep
open Go

theorem perm_at {α : Type} (l : List α) (j : Nat) (hj : j < l.length) : l.Perm (l[j] :: (l.take j ++ l.drop (j + 1))) := by
  have h1 : l = l.take j ++ l[j] :: l.drop (j + 1) := by simp
  have h2 : (l.take j ++ l[j] :: l.drop (j + 1)).Perm (l[j] :: (l.take j ++ l.drop (j + 1))) := List.perm_middle
  rw [← h1] at h2
  exact h2
theorem set_gone {α : Type} (l : List α) (i j : Nat) (v : α) (hi : i < l.length) (hj : j < l.length) (hne : i ≠ j) : ∃ rest, l.Perm (l[i] :: l[j] :: rest) ∧ ((l.set i v).take j ++ (l.set i v).drop (j + 1)).Perm (v :: rest) := by
  have hA := perm_at l i hi
  have hmem : l[j] ∈ l.take i ++ l.drop (i + 1) := by
    rcases Nat.lt_or_ge j i with h | h
    · refine List.mem_append_left _ (List.mem_iff_getElem.2 ⟨j, by rw [List.length_take]; omega, by simp⟩)
    · refine List.mem_append_right _ (List.mem_iff_getElem.2 ⟨j - (i + 1), by rw [List.length_drop]; omega, ?_⟩)
      rw [List.getElem_drop]
      congr 1
      omega
  obtain ⟨s, u, hE⟩ := List.append_of_mem hmem
  have hE' : (l.take i ++ l.drop (i + 1)).Perm (l[j] :: (s ++ u)) := by rw [hE]; exact List.perm_middle
  refine ⟨s ++ u, hA.trans (hE'.cons _), ?_⟩
  have hi' : i < (l.set i v).length := by simpa using hi
  have hj' : j < (l.set i v).length := by simpa using hj
  have hB := perm_at (l.set i v) i hi'
  have hC := perm_at (l.set i v) j hj'
  rw [List.getElem_set_self] at hB
  rw [List.getElem_set_ne hne] at hC
  have hD : (l.set i v).take i ++ (l.set i v).drop (i + 1) = l.take i ++ l.drop (i + 1) := by
    rw [List.drop_set_of_lt (by omega), List.take_set, List.set_eq_of_length_le (by rw [List.length_take]; omega)]
  rw [hD] at hB
  have : (l[j] :: ((l.set i v).take j ++ (l.set i v).drop (j + 1))).Perm (l[j] :: v :: (s ++ u)) :=
    hC.symm.trans (hB.trans ((hE'.cons v).trans (List.Perm.swap _ _ _)))
  exact List.Perm.cons_inv this
inductive Split (xs ys : List Edge) : Prop
  | par (x y : Edge) (rest : List Edge) (h : xs.Perm (x :: y :: rest)) (h1 : y.frm = x.frm) (h2 : y.to = x.to) (hy : ys.Perm (⟨x.frm, x.to, joinT 2 x.t y.t⟩ :: rest))
  | ser (x y : Edge) (rest : List Edge) (h : xs.Perm (x :: y :: rest)) (h1 : y.frm = x.to) (hL : x.to ≠ sL) (hR : x.to ≠ sR) (hc : comes x.to xs = 1) (hl : leaves x.to xs = 1) (hy : ys.Perm (⟨x.frm, y.to, joinT 1 x.t y.t⟩ :: rest))
theorem step_split {xs ys : List Edge} (hne : ∀ x, x ∈ xs → x.frm ≠ x.to) (h : Step xs ys) : Split xs ys := by
  rcases h with h | h
  · rcases h with ⟨h, _⟩ | ⟨_, i, j, hij, hj, ⟨h1, h2⟩, rfl⟩
    · cases h
    · obtain ⟨rest, p, q⟩ := set_gone xs i j ⟨xs[i].frm, xs[i].to, joinT 2 xs[i].t xs[j].t⟩ (by omega) hj (by omega)
      exact .par _ _ rest p h1 h2 q
  · rcases h with ⟨h, _⟩ | ⟨_, i, k, hi, hk, hL, hR, hc, hl, hf, rfl⟩
    · cases h
    · have hik : i ≠ k := fun e => by
        subst e
        exact hne _ (List.getElem_mem hi) hf
      obtain ⟨rest, p, q⟩ := set_gone xs i k ⟨xs[i].frm, xs[k].to, joinT 1 xs[i].t xs[k].t⟩ hi hk hik
      exact .ser _ _ rest p hf hL hR hc hl q
/-! ### Order -/
theorem rkL_lt : ∀ {l : List ByteArray} {p q : ByteArray}, l.Nodup → [p, q].Sublist l → rkL l p < rkL l q
  | [], p, q, _, h => by cases h
  | a :: l, p, q, hn, h => by
    have hn' := List.nodup_cons.1 hn
    cases h with
    | cons _ h =>
      have hp : p ∈ l := h.subset (by simp)
      have hq : q ∈ l := h.subset (by simp)
      have h1 : p ≠ a := fun e => hn'.1 (e ▸ hp)
      have h2 : q ≠ a := fun e => hn'.1 (e ▸ hq)
      have := rkL_lt hn'.2 h
      simp [rkL, h1, h2]
      omega
    | cons_cons _ h =>
      have hq : q ∈ l := h.subset (by simp)
      have h2 : q ≠ a := fun e => hn'.1 (e ▸ hq)
      simp [rkL, h2]
theorem Sk.order : ∀ (S : Sk) {f t : ByteArray} {x : Edge}, x ∈ S.es f t → [x.frm, x.to].Sublist (f :: (S.mids ++ [t]))
  | .e z, f, t, x, h => by
    obtain rfl : x = ⟨f, t, z⟩ := by simpa [Sk.es] using h
    exact List.Sublist.refl _
  | .par a b, f, t, x, h => by
    rcases List.mem_append.1 h with h | h
    · refine (order a h).trans (List.Sublist.cons_cons _ ?_)
      exact List.Sublist.append (List.sublist_append_left _ _) (List.Sublist.refl _)
    · refine (order b h).trans (List.Sublist.cons_cons _ ?_)
      exact List.Sublist.append (List.sublist_append_right _ _) (List.Sublist.refl _)
  | .ser a m b, f, t, x, h => by
    rcases List.mem_append.1 h with h | h
    · refine (order a h).trans (List.Sublist.cons_cons _ ?_)
      show (a.mids ++ [m]).Sublist ((a.mids ++ m :: b.mids) ++ [t])
      rw [List.append_assoc]
      refine List.Sublist.append (List.Sublist.refl _) ?_
      exact List.Sublist.cons_cons _ (List.nil_sublist _)
    · refine (order b h).trans (List.Sublist.cons _ ?_)
      show (m :: (b.mids ++ [t])).Sublist ((a.mids ++ m :: b.mids) ++ [t])
      rw [List.append_assoc]
      exact List.sublist_append_right _ _
theorem good_ne {S : Sk} {f t : ByteArray} (h : Good S f t) {x : Edge} (hx : x ∈ S.es f t) : x.frm ≠ x.to := fun e => by
  have := rkL_lt h (S.order hx)
  rw [e] at this
  omega
/-- The edges are a skeleton's, whose tree, sorted, is T. -/
structure Sked (T : PT) (xs : List Edge) (S : Sk) : Prop where
  es : xs.Perm (S.es sL sR)
  good : Good S sL sR
  ok : S.ok
  nodup : S.lv.Nodup
  can : srtT S.tr = T
theorem countP_rest {p : Edge → Bool} {xs rest : List Edge} {x y : Edge} (h : xs.Perm (x :: y :: rest)) (h1 : xs.countP p = 1) (hp : p x = true ∨ p y = true) : ∀ z, z ∈ rest → p z = false := by
  rw [h.countP_eq] at h1
  have h0 : rest.countP p = 0 := by
    simp only [List.countP_cons] at h1
    rcases hp with hp | hp
    · rw [if_pos hp] at h1; omega
    · rw [if_pos hp] at h1; omega
  rw [List.countP_eq_zero] at h0
  intro z hz
  simpa using h0 z hz
theorem Sked.step {T : PT} {xs ys : List Edge} {S : Sk} (h : Sked T xs S) (s : Step xs ys) : ∃ S', Sked T ys S' := by
  have hne : ∀ x, x ∈ xs → x.frm ≠ x.to := fun x hx e => by
    have hx' := h.es.mem_iff.1 hx
    have := good_ne h.good hx'
    exact this e
  have fin : ∀ {S' : Sk} {x y new : Edge} {rest rest' : List Edge} {gone : List ByteArray}, Out S S' sL sR x y new rest' gone → xs.Perm (x :: y :: rest) → ys.Perm (new :: rest) → Sked T ys S' := by
    intro S' x y new rest rest' gone o hx hy
    have o := o.cut (h.es.symm.trans hx)
    refine ⟨hy.trans o.es.symm, ?_, o.ok h.ok, o.lv.nodup_iff.1 h.nodup, (o.can h.ok h.nodup).trans h.can⟩
    have hg := good_iff.1 h.good
    have hm := o.mids
    refine good_iff.2 ⟨fun hi => hg.1 (hm.mem_iff.2 (List.mem_append_right _ hi)), hg.2.1, fun hi => hg.2.2.1 (hm.mem_iff.2 (List.mem_append_right _ hi)), ?_⟩
    exact (List.nodup_append.1 (hm.nodup_iff.1 hg.2.2.2)).2.1
  cases step_split hne s with
  | par x y rest hx h1 h2 hy =>
    obtain ⟨S', r', o⟩ := par_red S h.good (h.es.symm.trans hx) h1 h2
    exact ⟨S', fin o hx hy⟩
  | ser x y rest hx h1 hL hR hc hl hy =>
    have c1 := countP_rest hx hc (.inl (by simp))
    have c2 := countP_rest hx hl (.inr (by simp [h1]))
    obtain ⟨S', r', o⟩ := ser_red S h.good (h.es.symm.trans hx) h1 hL hR (fun z hz => by simpa using c1 z hz) (fun z hz => by simpa using c2 z hz)
    exact ⟨S', fin o hx hy⟩
theorem Sked.steps {T : PT} {xs ys : List Edge} {S : Sk} (h : Sked T xs S) (s : Steps xs ys) : ∃ S', Sked T ys S' := by
  induction s with
  | refl => exact ⟨S, h⟩
  | step _ s ih =>
    obtain ⟨S', h'⟩ := ih
    exact h'.step s
theorem Sked.one {T : PT} {p q : ByteArray} {x : PT} {S : Sk} (h : Sked T [⟨p, q, x⟩] S) : S = .e x := by
  have hl := h.es.length_eq
  cases S with
  | e z =>
    have := h.es.mem_iff.1 List.mem_cons_self
    simp [Sk.es] at this
    rw [this.2.2]
  | par a b =>
    have h1 := a.pos sL sR
    have h2 := b.pos sL sR
    simp [Sk.es] at hl
    omega
  | ser a m b =>
    have h1 := a.pos sL m
    have h2 := b.pos m sR
    simp [Sk.es] at hl
    omega
theorem Sked.redOk {T : PT} {cs : List Contact} {S : Sk} (h : Sked T (initE cs cs.length) S) {u : PT} (r : RedOk cs u) : u = T := by
  obtain ⟨x, hs, hok, hu⟩ := r
  obtain ⟨S', h'⟩ := h.steps hs
  have e := h'.one
  subst e
  rw [srtT_of hok h'.nodup hu]
  exact h'.can
theorem Sked.redBad {T : PT} {cs : List Contact} {S : Sk} (h : Sked T (initE cs cs.length) S) : ¬ RedBad cs := by
  rintro ⟨ys, hs, ⟨hp, hr⟩, hn⟩
  obtain ⟨S', h'⟩ := h.steps hs
  rcases redu S' h'.good with ⟨x, rfl⟩ | hq | ⟨m, hm, h1, h2⟩
  · have : ys = [⟨sL, sR, x⟩] := List.perm_singleton.1 h'.es
    subst this
    simp [notOne] at hn
  · refine hq ?_
    have hpw : ys.Pairwise fun x y => ¬ Same2 x y := by
      rw [List.pairwise_iff_getElem]
      intro i j hi hj hij
      rcases hp with ⟨_, _, h3⟩ | ⟨h3, _⟩
      · exact h3 i j hj hij
      · cases h3
    exact (h'.es.pairwise_iff (fun {x y} hxy hyx => hxy ⟨hyx.1.symm, hyx.2.symm⟩)).1 hpw
  · have hg := good_iff.1 h'.good
    have c1 : comes m ys = 1 := by unfold comes at *; rw [h'.es.countP_eq]; exact h1
    have c2 : leaves m ys = 1 := by unfold leaves at *; rw [h'.es.countP_eq]; exact h2
    have hx : ∃ z, z ∈ ys ∧ decide (z.to = m) = true := by
      rw [← List.countP_pos_iff]
      unfold comes at c1
      omega
    obtain ⟨z, hz, hzm⟩ := hx
    obtain ⟨i, hi, rfl⟩ := List.mem_iff_getElem.1 hz
    have hzm : ys[i].to = m := of_decide_eq_true hzm
    rcases hr with ⟨_, _, h3⟩ | ⟨h3, _⟩
    · rcases h3 i hi with h4 | h4
      · rw [hzm] at h4
        rcases h4 with h4 | h4
        · exact hg.1 (h4 ▸ hm)
        · exact hg.2.2.1 (h4 ▸ hm)
      · rw [hzm] at h4
        exact h4 ⟨c1, c2⟩
    · cases h3
/-! ### The graph is well formed -/
theorem RT.trans {E : ByteArray → ByteArray → Prop} {a b c : ByteArray} (h : RT E a b) (k : RT E b c) : RT E a c := by
  induction k with
  | refl => exact h
  | step _ e ih => exact .step ih e
theorem Sk.fwd {E : ByteArray → ByteArray → Prop} : ∀ (S : Sk) {f t : ByteArray}, (∀ x, x ∈ S.es f t → E x.frm x.to) → ∀ m, m ∈ f :: (S.mids ++ [t]) → RT E f m
  | .e z, f, t, h, m, hm => by
    have := h ⟨f, t, z⟩ (by simp [Sk.es])
    simp [Sk.mids] at hm
    rcases hm with rfl | rfl
    · exact .refl
    · exact .step .refl this
  | .par a b, f, t, h, m, hm => by
    have ha := fwd a (fun x hx => h x (List.mem_append_left _ hx))
    have hb := fwd b (fun x hx => h x (List.mem_append_right _ hx))
    simp only [Sk.mids, List.mem_cons, List.mem_append, List.not_mem_nil, or_false] at hm ha hb
    rcases hm with h1 | (h1 | h1) | h1
    · exact ha m (.inl h1)
    · exact ha m (.inr (.inl h1))
    · exact hb m (.inr (.inl h1))
    · exact ha m (.inr (.inr h1))
  | .ser a k b, f, t, h, m, hm => by
    have ha := fwd a (fun x hx => h x (List.mem_append_left _ hx))
    have hb := fwd b (fun x hx => h x (List.mem_append_right _ hx))
    simp only [Sk.mids, List.mem_cons, List.mem_append, List.not_mem_nil, or_false] at hm ha hb
    have hk := ha k (.inr (.inr rfl))
    rcases hm with h1 | (h1 | h1 | h1) | h1
    · exact ha m (.inl h1)
    · exact ha m (.inr (.inl h1))
    · rw [h1]; exact hk
    · exact hk.trans (hb m (.inr (.inl h1)))
    · exact hk.trans (hb m (.inr (.inr h1)))
theorem Sk.bwd {E : ByteArray → ByteArray → Prop} : ∀ (S : Sk) {f t : ByteArray}, (∀ x, x ∈ S.es f t → E x.to x.frm) → ∀ m, m ∈ f :: (S.mids ++ [t]) → RT E t m
  | .e z, f, t, h, m, hm => by
    have := h ⟨f, t, z⟩ (by simp [Sk.es])
    simp [Sk.mids] at hm
    rcases hm with rfl | rfl
    · exact .step .refl this
    · exact .refl
  | .par a b, f, t, h, m, hm => by
    have ha := bwd a (fun x hx => h x (List.mem_append_left _ hx))
    have hb := bwd b (fun x hx => h x (List.mem_append_right _ hx))
    simp only [Sk.mids, List.mem_cons, List.mem_append, List.not_mem_nil, or_false] at hm ha hb
    rcases hm with h1 | (h1 | h1) | h1
    · exact ha m (.inl h1)
    · exact ha m (.inr (.inl h1))
    · exact hb m (.inr (.inl h1))
    · exact ha m (.inr (.inr h1))
  | .ser a k b, f, t, h, m, hm => by
    have ha := bwd a (fun x hx => h x (List.mem_append_left _ hx))
    have hb := bwd b (fun x hx => h x (List.mem_append_right _ hx))
    simp only [Sk.mids, List.mem_cons, List.mem_append, List.not_mem_nil, or_false] at hm ha hb
    have hk := hb k (.inl rfl)
    rcases hm with h1 | (h1 | h1 | h1) | h1
    · exact hk.trans (ha m (.inl h1))
    · exact hk.trans (ha m (.inr (.inl h1)))
    · rw [h1]; exact hk
    · exact hb m (.inr (.inl h1))
    · exact hb m (.inr (.inr h1))
theorem initE_mem {cs : List Contact} {x : Edge} : x ∈ initE cs cs.length ↔ ∃ (i : Nat) (h : i < cs.length), x = ⟨cs[i].frm, cs[i].to, .mk 0 (i : Int) []⟩ := by
  unfold initE
  rw [List.mem_filterMap]
  constructor
  · rintro ⟨i, hi, h⟩
    have hi' : i < cs.length := List.mem_range.1 hi
    rw [List.getElem?_eq_getElem hi'] at h
    simp at h
    exact ⟨i, hi', h.symm⟩
  · rintro ⟨i, hi, rfl⟩
    exact ⟨i, List.mem_range.2 hi, by rw [List.getElem?_eq_getElem hi]; rfl⟩
theorem wf_of {cs : List Contact} {S : Sk} (h : (initE cs cs.length).Perm (S.es sL sR)) (g : Good S sL sR) : WF cs := by
  have to : ∀ c, c ∈ cs → ∃ x, x ∈ S.es sL sR ∧ x.frm = c.frm ∧ x.to = c.to := fun c hc => by
    obtain ⟨i, hi, rfl⟩ := List.mem_iff_getElem.1 hc
    exact ⟨_, h.mem_iff.1 (initE_mem.2 ⟨i, hi, rfl⟩), rfl, rfl⟩
  have from' : ∀ x, x ∈ S.es sL sR → ∃ c, c ∈ cs ∧ x.frm = c.frm ∧ x.to = c.to := fun x hx => by
    obtain ⟨i, hi, rfl⟩ := initE_mem.1 (h.mem_iff.2 hx)
    exact ⟨_, List.getElem_mem hi, rfl, rfl⟩
  refine ⟨?_, ⟨rkL (sL :: (S.mids ++ [sR])), fun c hc => ?_⟩, fun x hx => ?_⟩
  · have h1 := h.length_eq
    rw [initE_len cs _ (Nat.le_refl _)] at h1
    have h2 := S.pos sL sR
    omega
  · obtain ⟨x, hx, e1, e2⟩ := to c hc
    rw [← e1, ← e2]
    exact rkL_lt g (S.order hx)
  · have hm : x ∈ sL :: (S.mids ++ [sR]) := by
      rcases nodesF_mem.1 hx with rfl | rfl | ⟨c, hc, he⟩
      · simp
      · simp
      · obtain ⟨y, hy, e1, e2⟩ := to c hc
        have he' := S.ends hy
        rcases he with rfl | rfl
        · rw [← e1]
          rcases List.mem_cons.1 he'.1 with h' | h'
          · rw [h']; simp
          · exact List.mem_cons_of_mem _ (List.mem_append_left _ h')
        · rw [← e2]
          exact List.mem_cons_of_mem _ he'.2
    constructor
    · refine S.fwd (fun y hy => ?_) x hm
      obtain ⟨c, hc, e1, e2⟩ := from' y hy
      exact ⟨c, hc, e1.symm, e2⟩
    · refine S.bwd (fun y hy => ?_) x hm
      obtain ⟨c, hc, e1, e2⟩ := from' y hy
      exact ⟨c, hc, e2.symm, e1⟩
end Go.Proofs.YtolggjmgfijjfaaGreatDoor.Sep

/- An expanded tree is a skeleton; reducing it gives the tree, sorted. Nothing here speaks of a program. -/
namespace Go.Proofs.YtolggjmgfijjfaaGreatDoor.Sep
open Go

mutual
def skT : PT → Nat → Sk × Nat
  | .mk k n kids, s => if k = 0 then (.e (.mk 0 n []), s) else if k = 2 then skP kids s else skS kids s
def skP : List PT → Nat → Sk × Nat
  | [], s => (.e (.mk 0 0 []), s)
  | [x], s => skT x s
  | x :: y :: r, s => (.par (skT x s).1 (skP (y :: r) (skT x s).2).1, (skP (y :: r) (skT x s).2).2)
def skS : List PT → Nat → Sk × Nat
  | [], s => (.e (.mk 0 0 []), s)
  | [x], s => skT x s
  | x :: y :: r, s => (.ser (skT x (s + 1)).1 (nodeName (s + 1)) (skS (y :: r) (skT x (s + 1)).2).1, (skS (y :: r) (skT x (s + 1)).2).2)
end
mutual
theorem skT_num : ∀ (t : PT) (f to : ByteArray) (s : LS), (layT t f to s).1 = (skT t s.1).2
  | .mk k n kids, f, to, s => by
    rw [layT, skT]
    split
    · rfl
    · split
      · exact skP_num kids f to s
      · exact skS_num kids f to s
theorem skP_num : ∀ (l : List PT) (f to : ByteArray) (s : LS), (layP l f to s).1 = (skP l s.1).2
  | [], f, to, s => by rw [layP, skP]
  | [x], f, to, s => by rw [layP, layP, skP]; exact skT_num x f to s
  | x :: y :: r, f, to, s => by
    rw [layP, skP, skP_num (y :: r) f to, skT_num x f to s]
theorem skS_num : ∀ (l : List PT) (f to : ByteArray) (s : LS), (layS l f to s).1 = (skS l s.1).2
  | [], f, to, s => by rw [layS, skS]
  | [x], f, to, s => by rw [layS, skS]; exact skT_num x f to s
  | x :: y :: r, f, to, s => by
    rw [layS, skS, skS_num (y :: r), skT_num x]
end
/-- Contacts that are no leaf of the tree stand. -/
theorem setEnds_ne (cs : List Contact) (i j : Nat) (f t : ByteArray) (h : i ≠ j) : (setEnds cs i f t)[j]? = cs[j]? := by
  unfold setEnds
  split
  · rw [List.getElem?_set_ne h]
  · rfl
mutual
theorem layT_far : ∀ (t : PT) (f to : ByteArray) (s : LS) (j : Nat), t.ok → (∀ x, x ∈ t.leaves → x.toNat ≠ j) → (layT t f to s).2[j]? = s.2[j]?
  | .mk k n kids, f, to, s, j, ho, h => by
    rw [layT]
    split
    · rename_i h0
      exact setEnds_ne _ _ _ _ _ (h n (by rw [PT.leaves, if_pos h0]; simp))
    · rename_i h0
      have hc := ok_cases ho
      rcases hc with h' | ⟨k1, _, _, _, k5⟩
      · exact absurd h'.1 h0
      have hl : (PT.mk k n kids).leaves = leavesL kids := leaves_kids _ k1
      rw [hl] at h
      split
      · exact layP_far kids f to s j (okL_iff.2 k5) h
      · exact layS_far kids f to s j (okL_iff.2 k5) h
theorem layP_far : ∀ (l : List PT) (f to : ByteArray) (s : LS) (j : Nat), okL l → (∀ x, x ∈ leavesL l → x.toNat ≠ j) → (layP l f to s).2[j]? = s.2[j]?
  | [], f, to, s, j, _, _ => by rw [layP]
  | x :: r, f, to, s, j, ho, h => by
    rw [okL] at ho
    rw [layP, layP_far r f to _ j ho.2 (fun y hy => h y (by rw [leavesL]; exact List.mem_append_right _ hy)), layT_far x f to s j ho.1 (fun y hy => h y (by rw [leavesL]; exact List.mem_append_left _ hy))]
theorem layS_far : ∀ (l : List PT) (f to : ByteArray) (s : LS) (j : Nat), okL l → (∀ x, x ∈ leavesL l → x.toNat ≠ j) → (layS l f to s).2[j]? = s.2[j]?
  | [], f, to, s, j, _, _ => by rw [layS]
  | [x], f, to, s, j, ho, h => by
    rw [okL] at ho
    rw [layS, layT_far x f to s j ho.1 (fun y hy => h y (by rw [leavesL]; exact List.mem_append_left _ hy))]
  | x :: y :: r, f, to, s, j, ho, h => by
    rw [okL] at ho
    rw [layS, layS_far (y :: r) _ _ _ j ho.2 (fun z hz => h z (by rw [leavesL]; exact List.mem_append_right _ hz)), layT_far x _ _ _ j ho.1 (fun z hz => h z (by rw [leavesL]; exact List.mem_append_left _ hz))]
end
theorem leavesL_cons (x : PT) (r : List PT) : leavesL (x :: r) = x.leaves ++ leavesL r := by rw [leavesL]
def edgeAt (cs : List Contact) (i : Int) : Edge := match cs[i.toNat]? with
  | some c => ⟨c.frm, c.to, .mk 0 i []⟩
  | none => ⟨sL, sR, .mk 0 i []⟩
theorem edgeAt_eq {cs cs' : List Contact} {i : Int} (h : cs'[i.toNat]? = cs[i.toNat]?) : edgeAt cs' i = edgeAt cs i := by
  unfold edgeAt
  rw [h]
theorem map_edgeAt {l : List Int} {cs cs' : List Contact} (h : ∀ i, i ∈ l → cs'[i.toNat]? = cs[i.toNat]?) : l.map (edgeAt cs') = l.map (edgeAt cs) := List.map_congr_left fun i hi => edgeAt_eq (h i hi)
def InR (n : Nat) (l : List Int) : Prop := ∀ x, x ∈ l → 0 ≤ x ∧ x < (n : Int)
theorem nat_ne {n m : Nat} {l r : List Int} (hn : (l ++ r).Nodup) (h1 : InR n l) (h2 : InR m r) : ∀ i, i ∈ l → ∀ x, x ∈ r → x.toNat ≠ i.toNat := fun i hi x hx e => by
  have a := h1 i hi
  have b := h2 x hx
  have : x = i := by omega
  subst this
  exact (List.nodup_append.1 hn).2.2 _ hi _ hx rfl
mutual
theorem skT_es : ∀ (t : PT) (f to : ByteArray) (s : Nat) (cs : List Contact), t.ok → InR cs.length t.leaves → t.leaves.Nodup → (skT t s).1.es f to = t.leaves.map (edgeAt (layT t f to (s, cs)).2)
  | .mk k n kids, f, to, s, cs, ho, hr, hn => by
    rw [layT, skT]
    by_cases h0 : k = 0
    · rw [if_pos h0, if_pos h0]
      have hl : (PT.mk k n kids).leaves = [n] := leaves_leaf _ h0
      have := hr n (by rw [hl]; simp)
      have hlt : n.toNat < cs.length := by omega
      rw [hl]
      simp only [Sk.es, List.map_cons, List.map_nil]
      unfold edgeAt
      rw [setEnds_at hlt, List.getElem?_set_self hlt]
    · rw [if_neg h0, if_neg h0]
      rcases ok_cases ho with h' | ⟨k1, _, _, _, k5⟩
      · exact absurd h'.1 h0
      have hl : (PT.mk k n kids).leaves = leavesL kids := leaves_kids _ k1
      rw [hl] at hr hn ⊢
      have h2 : 2 ≤ kids.length := (ok_two ho h0).2
      split
      · exact skP_es kids f to s cs (okL_iff.2 k5) hr hn (by omega)
      · exact skS_es kids f to s cs (okL_iff.2 k5) hr hn (by omega)
theorem skP_es : ∀ (l : List PT) (f to : ByteArray) (s : Nat) (cs : List Contact), okL l → InR cs.length (leavesL l) → (leavesL l).Nodup → 0 < l.length → (skP l s).1.es f to = (leavesL l).map (edgeAt (layP l f to (s, cs)).2)
  | [], f, to, s, cs, _, _, _, h => by simp at h
  | [x], f, to, s, cs, ho, hr, hn, _ => by
    rw [okL] at ho
    simp only [leavesL, List.append_nil] at hr hn ⊢
    rw [layP, layP, skP]
    exact skT_es x f to s cs ho.1 hr hn
  | x :: y :: r, f, to, s, cs, ho, hr, hn, _ => by
    rw [okL] at ho
    have hr1 : InR cs.length x.leaves := fun z hz => hr z (by rw [leavesL]; exact List.mem_append_left _ hz)
    have hr2 : InR cs.length (leavesL (y :: r)) := fun z hz => hr z (by rw [leavesL]; exact List.mem_append_right _ hz)
    rw [leavesL] at hn
    have hn' := List.nodup_append.1 hn
    have e1 := skT_es x f to s cs ho.1 hr1 hn'.1
    have hlen := layT_len x f to (s, cs)
    have e2 := skP_es (y :: r) f to (skT x s).2 (layT x f to (s, cs)).2 ho.2 (by rw [hlen]; exact hr2) hn'.2.1 (by simp)
    have hnum : (layT x f to (s, cs)) = ((skT x s).2, (layT x f to (s, cs)).2) := by rw [← skT_num x f to (s, cs)]
    rw [layP, skP, Sk.es, e1, e2, leavesL_cons x (y :: r), List.map_append, ← hnum]
    congr 1
    refine (map_edgeAt fun i hi => ?_).symm
    exact layP_far (y :: r) f to _ _ ho.2 (nat_ne hn hr1 hr2 i hi)
theorem skS_es : ∀ (l : List PT) (f to : ByteArray) (s : Nat) (cs : List Contact), okL l → InR cs.length (leavesL l) → (leavesL l).Nodup → 0 < l.length → (skS l s).1.es f to = (leavesL l).map (edgeAt (layS l f to (s, cs)).2)
  | [], f, to, s, cs, _, _, _, h => by simp at h
  | [x], f, to, s, cs, ho, hr, hn, _ => by
    rw [okL] at ho
    simp only [leavesL, List.append_nil] at hr hn ⊢
    rw [layS, skS]
    exact skT_es x f to s cs ho.1 hr hn
  | x :: y :: r, f, to, s, cs, ho, hr, hn, _ => by
    rw [okL] at ho
    have hr1 : InR cs.length x.leaves := fun z hz => hr z (by rw [leavesL]; exact List.mem_append_left _ hz)
    have hr2 : InR cs.length (leavesL (y :: r)) := fun z hz => hr z (by rw [leavesL]; exact List.mem_append_right _ hz)
    rw [leavesL] at hn
    have hn' := List.nodup_append.1 hn
    have e1 := skT_es x f (nodeName (s + 1)) (s + 1) cs ho.1 hr1 hn'.1
    have hlen := layT_len x f (nodeName (s + 1)) (s + 1, cs)
    have e2 := skS_es (y :: r) (nodeName (s + 1)) to (skT x (s + 1)).2 (layT x f (nodeName (s + 1)) (s + 1, cs)).2 ho.2 (by rw [hlen]; exact hr2) hn'.2.1 (by simp)
    have hnum : (layT x f (nodeName (s + 1)) (s + 1, cs)) = ((skT x (s + 1)).2, (layT x f (nodeName (s + 1)) (s + 1, cs)).2) := by rw [← skT_num x f (nodeName (s + 1)) (s + 1, cs)]
    rw [layS, skS, Sk.es, e1, e2, leavesL_cons x (y :: r), List.map_append, ← hnum]
    congr 1
    refine (map_edgeAt fun i hi => ?_).symm
    exact layS_far (y :: r) _ to _ _ ho.2 (nat_ne hn hr1 hr2 i hi)
end
/-! ### Its tree -/
mutual
theorem skT_tr : ∀ (t : PT) (s : Nat), t.ok → (skT t s).1.tr = t ∧ (skT t s).1.ok ∧ (skT t s).1.lv = t.leaves
  | .mk k n kids, s, ho => by
    rw [skT]
    have hc := ok_cases ho
    by_cases h0 : k = 0
    · rw [if_pos h0]
      subst h0
      have hk : kids = [] := (show (0 : Int) = 0 ∧ kids = [] ∨ _ from hc).elim (fun h => h.2) (fun h => by have : (0 : Int) = 1 ∨ (0 : Int) = 2 := h.1; omega)
      subst hk
      exact ⟨rfl, ho, rfl⟩
    · rw [if_neg h0]
      rcases hc with h' | ⟨k1, k2, k3, k4, k5⟩
      · exact absurd h'.1 h0
      have hn : n = 0 := k2
      have hl : (PT.mk k n kids).leaves = leavesL kids := leaves_kids _ k1
      rw [hl]
      subst hn
      have k3 : 2 ≤ kids.length := k3
      split
      · rename_i h2
        subst h2
        obtain ⟨a, b, c⟩ := skP_tr kids s (okL_iff.2 k5) k4 (by omega)
        refine ⟨?_, b, c⟩
        rw [a, if_neg (by omega)]
      · rename_i h2
        have h1 : k = 1 := by
          have : k = 1 ∨ k = 2 := k1
          omega
        subst h1
        obtain ⟨a, b, c⟩ := skS_tr kids s (okL_iff.2 k5) k4 (by omega)
        refine ⟨?_, b, c⟩
        rw [a, if_neg (by omega)]
theorem skP_tr : ∀ (l : List PT) (s : Nat), okL l → (∀ x, x ∈ l → x.kind ≠ 2) → 0 < l.length → (skP l s).1.tr = (if l.length = 1 then l.headD (.mk 0 0 []) else .mk 2 0 l) ∧ (skP l s).1.ok ∧ (skP l s).1.lv = leavesL l
  | [], s, _, _, h => by simp at h
  | [x], s, ho, _, _ => by
    rw [okL] at ho
    have := skT_tr x s ho.1
    rw [skP]
    simpa [leavesL] using this
  | x :: y :: r, s, ho, hk, _ => by
    rw [okL] at ho
    have hx := skT_tr x s ho.1
    have hr := skP_tr (y :: r) (skT x s).2 ho.2 (fun z hz => hk z (List.mem_cons_of_mem _ hz)) (by simp)
    rw [skP]
    refine ⟨?_, ⟨hx.2.1, hr.2.1⟩, by rw [Sk.lv, hx.2.2, hr.2.2, leavesL_cons x (y :: r)]⟩
    rw [Sk.tr, hx.1, hr.1, if_neg (show ¬ (x :: y :: r).length = 1 by simp)]
    have kx : ¬ x.kind = 2 := hk x (by simp)
    have ky : ¬ y.kind = 2 := hk y (by simp)
    show PT.mk 2 0 (flatK 2 [x, _]) = _
    congr 1
    cases r with
    | nil => simp [flatK, kx, ky]
    | cons z r =>
      rw [if_neg (show ¬ (y :: z :: r).length = 1 by simp)]
      have e1 : (PT.mk 2 0 (y :: z :: r)).kind = 2 := rfl
      have e2 : (PT.mk 2 0 (y :: z :: r)).kids = y :: z :: r := rfl
      simp [flatK, kx, e1, e2]
theorem skS_tr : ∀ (l : List PT) (s : Nat), okL l → (∀ x, x ∈ l → x.kind ≠ 1) → 0 < l.length → (skS l s).1.tr = (if l.length = 1 then l.headD (.mk 0 0 []) else .mk 1 0 l) ∧ (skS l s).1.ok ∧ (skS l s).1.lv = leavesL l
  | [], s, _, _, h => by simp at h
  | [x], s, ho, _, _ => by
    rw [okL] at ho
    have := skT_tr x s ho.1
    rw [skS]
    simpa [leavesL] using this
  | x :: y :: r, s, ho, hk, _ => by
    rw [okL] at ho
    have hx := skT_tr x (s + 1) ho.1
    have hr := skS_tr (y :: r) (skT x (s + 1)).2 ho.2 (fun z hz => hk z (List.mem_cons_of_mem _ hz)) (by simp)
    rw [skS]
    refine ⟨?_, ⟨hx.2.1, hr.2.1⟩, by rw [Sk.lv, hx.2.2, hr.2.2, leavesL_cons x (y :: r)]⟩
    rw [Sk.tr, hx.1, hr.1, if_neg (show ¬ (x :: y :: r).length = 1 by simp)]
    have kx : ¬ x.kind = 1 := hk x (by simp)
    have ky : ¬ y.kind = 1 := hk y (by simp)
    show PT.mk 1 0 (flatK 1 [x, _]) = _
    congr 1
    cases r with
    | nil => simp [flatK, kx, ky]
    | cons z r =>
      rw [if_neg (show ¬ (y :: z :: r).length = 1 by simp)]
      have e1 : (PT.mk 1 0 (y :: z :: r)).kind = 1 := rfl
      have e2 : (PT.mk 1 0 (y :: z :: r)).kids = y :: z :: r := rfl
      simp [flatK, kx, e1, e2]
end
/-! ### Its nodes' names -/
def Named (s s' : Nat) (l : List ByteArray) : Prop := ∃ js : List Nat, l = js.map nodeName ∧ js.Nodup ∧ ∀ j, j ∈ js → s < j ∧ j ≤ s'
theorem Named.nil {s s' : Nat} : Named s s' [] := ⟨[], rfl, List.nodup_nil, fun j h => nomatch h⟩
theorem Named.append {s s' s'' : Nat} {l r : List ByteArray} (h : Named s s' l) (k : Named s' s'' r) (h1 : s ≤ s') (h2 : s' ≤ s'') : Named s s'' (l ++ r) := by
  obtain ⟨js, rfl, n1, b1⟩ := h
  obtain ⟨ks, rfl, n2, b2⟩ := k
  refine ⟨js ++ ks, by simp, List.nodup_append.2 ⟨n1, n2, fun a ha b hb e => ?_⟩, fun j hj => ?_⟩
  · have := b1 a ha
    have := b2 b hb
    omega
  · rcases List.mem_append.1 hj with hj | hj
    · have := b1 j hj; omega
    · have := b2 j hj; omega
theorem Named.mid {s s' s'' : Nat} {l r : List ByteArray} (h : Named (s + 1) s' l) (k : Named s' s'' r) (h1 : s + 1 ≤ s') (h2 : s' ≤ s'') : Named s s'' (l ++ nodeName (s + 1) :: r) := by
  obtain ⟨js, rfl, n1, b1⟩ := h
  obtain ⟨ks, rfl, n2, b2⟩ := k
  refine ⟨js ++ (s + 1) :: ks, by simp, List.nodup_append.2 ⟨n1, List.nodup_cons.2 ⟨fun hm => ?_, n2⟩, fun a ha b hb e => ?_⟩, fun j hj => ?_⟩
  · have := b2 _ hm; omega
  · have := b1 a ha
    rcases List.mem_cons.1 hb with hb | hb
    · omega
    · have := b2 b hb
      omega
  · rcases List.mem_append.1 hj with hj | hj
    · have := b1 j hj; omega
    · rcases List.mem_cons.1 hj with hj | hj
      · omega
      · have := b2 j hj; omega
mutual
theorem skT_named : ∀ (t : PT) (s : Nat), s ≤ (skT t s).2 ∧ Named s (skT t s).2 (skT t s).1.mids
  | .mk k n kids, s => by
    rw [skT]
    split
    · exact ⟨Nat.le_refl _, .nil⟩
    · split
      · exact skP_named kids s
      · exact skS_named kids s
theorem skP_named : ∀ (l : List PT) (s : Nat), s ≤ (skP l s).2 ∧ Named s (skP l s).2 (skP l s).1.mids
  | [], s => by rw [skP]; exact ⟨Nat.le_refl _, .nil⟩
  | [x], s => by rw [skP]; exact skT_named x s
  | x :: y :: r, s => by
    obtain ⟨a, b⟩ := skT_named x s
    obtain ⟨c, d⟩ := skP_named (y :: r) (skT x s).2
    rw [skP]
    exact ⟨Nat.le_trans a c, b.append d a c⟩
theorem skS_named : ∀ (l : List PT) (s : Nat), s ≤ (skS l s).2 ∧ Named s (skS l s).2 (skS l s).1.mids
  | [], s => by rw [skS]; exact ⟨Nat.le_refl _, .nil⟩
  | [x], s => by rw [skS]; exact skT_named x s
  | x :: y :: r, s => by
    obtain ⟨a, b⟩ := skT_named x (s + 1)
    obtain ⟨c, d⟩ := skS_named (y :: r) (skT x (s + 1)).2
    rw [skS]
    exact ⟨by show s ≤ _; omega, b.mid d a c⟩
end
theorem digits_inj {i j : Nat} (hi : i < 100) (hj : j < 100) (h : digits i = digits j) : i = j := by
  unfold digits at h
  have h' : Go.Lib.decDigits i = Go.Lib.decDigits j := by
    injection h with h
    injection h
  by_cases i1 : i < 10
  · by_cases j1 : j < 10
    · rw [Go.Lib.decDigits_one i1, Go.Lib.decDigits_one j1] at h'
      have := List.cons.inj h'
      have := congrArg UInt8.toNat this.1
      simp at this
      omega
    · rw [Go.Lib.decDigits_one i1, Go.Lib.decDigits_two j1 hj] at h'
      simp at h'
  · by_cases j1 : j < 10
    · rw [Go.Lib.decDigits_two i1 hi, Go.Lib.decDigits_one j1] at h'
      simp at h'
    · rw [Go.Lib.decDigits_two i1 hi, Go.Lib.decDigits_two j1 hj] at h'
      have a := List.cons.inj h'
      have b := List.cons.inj a.2
      have a1 := congrArg UInt8.toNat a.1
      have b1 := congrArg UInt8.toNat b.1
      simp at a1 b1
      omega
theorem nodeName_inj {i j : Nat} (hi : i < 100) (hj : j < 100) (h : nodeName i = nodeName j) : i = j := by
  refine digits_inj hi hj ?_
  unfold nodeName at h
  have h' := congrArg ByteArray.data h
  rw [ByteArray.data_append, ByteArray.data_append] at h'
  have := Array.append_right_inj _ |>.1 h'
  cases hd : digits i
  cases he : digits j
  rw [hd, he] at this
  simpa using this
theorem nodeName_size (n : Nat) : 2 ≤ (nodeName n).size := by
  unfold nodeName
  rw [ByteArray.size_append]
  have h1 : (⟨#[110]⟩ : ByteArray).size = 1 := rfl
  have : 0 < (digits n).size := by
    unfold digits
    show 0 < (Go.Lib.decDigits n).toArray.size
    rw [List.size_toArray, Go.Lib.decDigits]
    split <;> simp
  omega
theorem named_good {S : Sk} {s' : Nat} (h : Named 0 s' S.mids) (hs : s' < 100) : Good S sL sR := by
  obtain ⟨js, e, n, b⟩ := h
  have nin : ∀ x : ByteArray, x.size = 1 → x ∉ S.mids := fun x hx hm => by
    rw [e] at hm
    obtain ⟨j, _, rfl⟩ := List.mem_map.1 hm
    have := nodeName_size j
    omega
  refine good_iff.2 ⟨nin _ rfl, sL_ne_sR, nin _ rfl, ?_⟩
  rw [e]
  unfold List.Nodup
  rw [List.pairwise_map]
  refine List.Pairwise.imp_of_mem (fun {a b'} ha hb hne he => hne ?_) n
  exact nodeName_inj (by have := b a ha; omega) (by have := b b' hb; omega) he
/-! ### The law -/
theorem initE_map (cs : List Contact) : ∀ k, k ≤ cs.length → initE cs k = ((List.range k).map fun i : Nat => (i : Int)).map (edgeAt cs)
  | 0, _ => by simp [initE]
  | k + 1, h => by
    rw [initE_step cs k (by omega), initE_map cs k (by omega), List.range_succ]
    simp only [List.map_append, List.map_cons, List.map_nil]
    congr 2
    unfold edgeAt
    rw [Int.toNat_natCast, List.getElem?_eq_getElem (show k < cs.length by omega)]
def nums (k : Nat) : List Int := (List.range k).map fun i : Nat => (i : Int)
theorem nums_nodup (k : Nat) : (nums k).Nodup := by
  unfold nums List.Nodup
  rw [List.pairwise_map]
  refine List.Pairwise.imp (fun {a b} h e => h ?_) (List.nodup_range (n := k))
  omega
theorem mem_nums {k : Nat} {x : Int} : x ∈ nums k ↔ 0 ≤ x ∧ x < (k : Int) := by
  unfold nums
  rw [List.mem_map]
  constructor
  · rintro ⟨j, hj, rfl⟩
    have := List.mem_range.1 hj
    omega
  · rintro ⟨h1, h2⟩
    exact ⟨x.toNat, List.mem_range.2 (by omega), by omega⟩
theorem subset_perm {α : Type} : ∀ {l r : List α}, l.Nodup → r.Nodup → (∀ x, x ∈ l → x ∈ r) → l.length = r.length → l.Perm r
  | [], r, _, _, _, h => by
    have : r = [] := List.eq_nil_of_length_eq_zero h.symm
    rw [this]
  | a :: l, r, hl, hr, hs, h => by
    obtain ⟨s, u, rfl⟩ := List.append_of_mem (hs a List.mem_cons_self)
    have hp : (s ++ a :: u).Perm (a :: (s ++ u)) := List.perm_middle
    have hr' := hp.nodup_iff.1 hr
    have hl' := List.nodup_cons.1 hl
    refine List.Perm.trans ?_ hp.symm
    refine (subset_perm hl'.2 (List.nodup_cons.1 hr').2 (fun x hx => ?_) ?_).cons a
    · rcases List.mem_cons.1 (hp.mem_iff.1 (hs x (List.mem_cons_of_mem _ hx))) with h' | h'
      · subst h'; exact absurd hx hl'.1
      · exact h'
    · have := hp.length_eq
      simp at h this ⊢
      omega
/-- A valid tree's leaves are the numbers. -/
theorem vld_perm {t : PT} {m : Nat} (h : Vld (m : Int) [] t) (hl : t.leaves.length = m) : t.leaves.Perm (nums m) :=
  subset_perm h.2.2.1 (nums_nodup m) (fun x hx => mem_nums.2 (h.2.1 x hx)) (by simp [nums, hl])
theorem vld_of {t : PT} {m : Nat} (ho : t.ok) (hp : t.leaves.Perm (nums m)) : Vld (m : Int) [] t ∧ t.leaves.length = m :=
  ⟨⟨ho, fun x hx => mem_nums.1 (hp.mem_iff.1 hx), hp.nodup_iff.2 (nums_nodup m), fun x _ h => nomatch h⟩, by rw [hp.length_eq]; simp [nums]⟩
theorem expand_sked {t : PT} {cs : List Contact} (hv : Vld (cs.length : Int) [] t) (hl : t.leaves.length = cs.length) (hb : cs.length ≤ 98) : Sked (srtT t) (initE (layT t sL sR (0, cs)).2 (layT t sL sR (0, cs)).2.length) (skT t 0).1 := by
  have hp := vld_perm hv hl
  obtain ⟨h1, h2, h3⟩ := skT_tr t 0 hv.1
  have hmade := layT_made t sL sR (0, cs) hv.1
  have hnum := skT_num t sL sR (0, cs)
  simp only at hmade hnum
  refine ⟨?_, named_good (skT_named t 0).2 (by omega), h2, by rw [h3]; exact hv.2.2.1, by rw [h1]⟩
  rw [initE_map _ _ (Nat.le_refl _), skT_es t sL sR 0 cs hv.1 hv.2.1 hv.2.2.1, layT_len]
  exact (hp.map _).symm
/-- WHAT 'ReduceInvertsExpand' SAYS OF PLAIN DATA. -/
theorem invert {t : PT} {cs : List Contact} (hv : Vld (cs.length : Int) [] t) (hl : t.leaves.length = cs.length) (hb : cs.length ≤ 98) :
    WF (layT t sL sR (0, cs)).2 ∧ (∀ u, RedOk (layT t sL sR (0, cs)).2 u → u = srtT t) ∧ ¬ RedBad (layT t sL sR (0, cs)).2 := by
  have h := expand_sked hv hl hb
  exact ⟨wf_of h.es h.good, fun u hu => h.redOk hu, h.redBad⟩
theorem srtT_vld {t : PT} {m : Nat} (hv : Vld (m : Int) [] t) (hl : t.leaves.length = m) : Vld (m : Int) [] (srtT t) ∧ (srtT t).leaves.length = m := by
  have hs := srtT_sorts hv.1
  exact vld_of hs.ok (hs.leaves.trans (vld_perm hv hl))
end Go.Proofs.YtolggjmgfijjfaaGreatDoor.Sep

/- The chapter's two examples; what a law asks of the results. Nothing here speaks of a program. -/
namespace Go.Proofs.YtolggjmgfijjfaaGreatDoor.Sep
open Go

def sa : ByteArray := ⟨#[97]⟩
def sb : ByteArray := ⟨#[98]⟩
def ex1 : List Contact := pairs [⟨#[76]⟩, ⟨#[97]⟩, ⟨#[97]⟩, ⟨#[82]⟩, ⟨#[76]⟩, ⟨#[82]⟩]
def ex2 : List Contact := pairs [⟨#[76]⟩, ⟨#[97]⟩, ⟨#[97]⟩, ⟨#[82]⟩, ⟨#[76]⟩, ⟨#[98]⟩, ⟨#[98]⟩, ⟨#[82]⟩, ⟨#[97]⟩, ⟨#[98]⟩]
/-- What a reduction yields: of a rung, its error and its tree. -/
def Red (cs : List Contact) (e : Int) (u : PT) : Prop := (e = 0 ∧ WF cs ∧ RedOk cs u) ∨ (e ≠ 0 ∧ u = .mk 0 0 [] ∧ (WF cs → e = 14 ∧ RedBad cs))
def lf (i : Int) : PT := .mk 0 i []
def sk1 : Sk := .par (.ser (.e (lf 0)) sa (.e (lf 1))) (.e (lf 2))
def tr1 : PT := .mk 2 0 [.mk 1 0 [lf 0, lf 1], lf 2]
theorem sked1 : Sked tr1 (initE ex1 ex1.length) sk1 where
  es := by
    have : initE ex1 ex1.length = sk1.es sL sR := rfl
    rw [this]
  good := by
    refine good_iff.2 ?_
    simp only [sk1, Sk.mids, List.nil_append, List.append_nil]
    decide
  ok := by
    have hl : ∀ i, (lf i).ok := fun i => ok_of (.inl ⟨rfl, rfl⟩)
    exact ⟨⟨hl 0, hl 1⟩, hl 2⟩
  nodup := by
    have : sk1.lv = [0, 1, 2] := by simp [sk1, Sk.lv, lf, PT.leaves]
    rw [this]
    decide
  can := by
    simp [sk1, Sk.tr, joinT, flatK, lf, PT.kind, PT.kids, srtT, srtL, sortIns, insT, leastT, minL, PT.leaves, leavesL, tr1]
theorem fmt1 : fmtT tr1 = (⟨#[123, 91, 48, 32, 49, 93, 32, 50, 125]⟩ : ByteArray) := by
  have d0 : digits 0 = ⟨#[48]⟩ := by unfold digits; rw [Go.Lib.decDigits_one (by decide)]; rfl
  have d1 : digits 1 = ⟨#[49]⟩ := by unfold digits; rw [Go.Lib.decDigits_one (by decide)]; rfl
  have d2 : digits 2 = ⟨#[50]⟩ := by unfold digits; rw [Go.Lib.decDigits_one (by decide)]; rfl
  have e0 : fmtT (lf 0) = ⟨#[48]⟩ := by rw [lf, fmtT, if_pos rfl]; exact d0
  have e1 : fmtT (lf 1) = ⟨#[49]⟩ := by rw [lf, fmtT, if_pos rfl]; exact d1
  have e2 : fmtT (lf 2) = ⟨#[50]⟩ := by rw [lf, fmtT, if_pos rfl]; exact d2
  have e3 : fmtT (.mk 1 0 [lf 0, lf 1]) = ⟨#[91, 48, 32, 49, 93]⟩ := by
    rw [fmtT, if_neg (by decide), if_pos rfl, fmtL, fmtL, fmtL, e0, e1]
    rfl
  rw [tr1, fmtT, if_neg (by decide), if_neg (by decide), if_pos rfl, fmtL, fmtL, fmtL, e3, e2]
  rfl
theorem alive1 {e : Int} {u : PT} (h : Red ex1 e u) : e = 0 ∧ small u ∧ u.ok ∧ u.nodes ≤ 100000 ∧ fmtT u = (⟨#[123, 91, 48, 32, 49, 93, 32, 50, 125]⟩ : ByteArray) := by
  have hok : tr1.ok := by simp [tr1, lf, PT.ok, noKind, okL, PT.kind]
  rcases h with ⟨h, _, hr⟩ | ⟨_, _, h⟩
  · have hu := sked1.redOk hr
    subst hu
    refine ⟨h, by simp [tr1, lf, small, smallL], hok, ?_, fmt1⟩
    simp [tr1, lf, PT.nodes, nodesL]
  · exact absurd (h (wf_of sked1.es sked1.good)).2 sked1.redBad
theorem init2 : initE ex2 ex2.length = [⟨sL, sa, lf 0⟩, ⟨sa, sR, lf 1⟩, ⟨sL, sb, lf 2⟩, ⟨sb, sR, lf 3⟩, ⟨sa, sb, lf 4⟩] := rfl
theorem nostep2 {ys : List Edge} : ¬ Step (initE ex2 ex2.length) ys := by
  rw [init2]
  rintro (h | h)
  · rcases h with ⟨h, _⟩ | ⟨_, i, j, hij, hj, h, _⟩
    · cases h
    · have hp : ([⟨sL, sa, lf 0⟩, ⟨sa, sR, lf 1⟩, ⟨sL, sb, lf 2⟩, ⟨sb, sR, lf 3⟩, ⟨sa, sb, lf 4⟩] : List Edge).Pairwise fun x y => ¬ Same2 x y := by
        have n1 : sb ≠ sa := by decide
        have n2 : sR ≠ sa := by decide
        have n3 : sa ≠ sL := by decide
        have n4 : sb ≠ sL := by decide
        have n5 : sb ≠ sR := by decide
        have n6 : sL ≠ sa := by decide
        have n7 : sL ≠ sb := by decide
        have n8 : sa ≠ sb := by decide
        simp [Same2, n1, n2, n3, n4, n5, n6, n7, n8]
      exact (List.pairwise_iff_getElem.1 hp) i j (by omega) hj hij h
  · rcases h with ⟨h, _⟩ | ⟨_, i, k, hi, hk, h1, h2, h3, h4, _⟩
    · cases h
    · have hp : ∀ x, x ∈ ([⟨sL, sa, lf 0⟩, ⟨sa, sR, lf 1⟩, ⟨sL, sb, lf 2⟩, ⟨sb, sR, lf 3⟩, ⟨sa, sb, lf 4⟩] : List Edge) → x.to ≠ sL → x.to ≠ sR → comes x.to [⟨sL, sa, lf 0⟩, ⟨sa, sR, lf 1⟩, ⟨sL, sb, lf 2⟩, ⟨sb, sR, lf 3⟩, ⟨sa, sb, lf 4⟩] = 1 → leaves x.to [⟨sL, sa, lf 0⟩, ⟨sa, sR, lf 1⟩, ⟨sL, sb, lf 2⟩, ⟨sb, sR, lf 3⟩, ⟨sa, sb, lf 4⟩] = 1 → False := by
        have n1 : sb ≠ sa := by decide
        have n2 : sR ≠ sa := by decide
        have n3 : sa ≠ sL := by decide
        have n4 : sb ≠ sL := by decide
        have n5 : sb ≠ sR := by decide
        have n6 : sL ≠ sa := by decide
        have n7 : sL ≠ sb := by decide
        have n8 : sa ≠ sb := by decide
        have n9 : sR ≠ sb := by decide
        simp [List.forall_mem_cons, comes, leaves, n1, n2, n3, n4, n5, n6, n7, n8, n9]
      exact hp _ (List.getElem_mem hi) h1 h2 h3 h4
theorem nosteps2 {ys : List Edge} (h : Steps (initE ex2 ex2.length) ys) : ys = initE ex2 ex2.length := by
  induction h with
  | refl => rfl
  | step _ s ih => subst ih; exact absurd s nostep2
theorem wf2 : WF ex2 := by
  have hm : ∀ a b, (a, b) ∈ [(sL, sa), (sa, sR), (sL, sb), (sb, sR), (sa, sb)] → Eout ex2 a b ∧ Ein ex2 b a := by
    intro a b h
    have h' : ∃ c, c ∈ ex2 ∧ c.frm = a ∧ c.to = b := by
      simp only [List.mem_cons, List.not_mem_nil, or_false, Prod.mk.injEq] at h
      rcases h with ⟨rfl, rfl⟩ | ⟨rfl, rfl⟩ | ⟨rfl, rfl⟩ | ⟨rfl, rfl⟩ | ⟨rfl, rfl⟩
      · exact ⟨⟨0, 0, 0, sL, sa⟩, .head _, rfl, rfl⟩
      · exact ⟨⟨0, 0, 0, sa, sR⟩, .tail _ (.head _), rfl, rfl⟩
      · exact ⟨⟨0, 0, 0, sL, sb⟩, .tail _ (.tail _ (.head _)), rfl, rfl⟩
      · exact ⟨⟨0, 0, 0, sb, sR⟩, .tail _ (.tail _ (.tail _ (.head _))), rfl, rfl⟩
      · exact ⟨⟨0, 0, 0, sa, sb⟩, .tail _ (.tail _ (.tail _ (.tail _ (.head _)))), rfl, rfl⟩
    obtain ⟨c, hc, h1, h2⟩ := h'
    exact ⟨⟨c, hc, h1, h2.symm⟩, ⟨c, hc, h2, h1.symm⟩⟩
  refine ⟨by decide, ⟨rkL [sL, sa, sb, sR], ?_⟩, ?_⟩
  · have : ∀ c, c ∈ ex2 → rkL [sL, sa, sb, sR] c.frm < rkL [sL, sa, sb, sR] c.to := by
      show ∀ c, c ∈ ([⟨0, 0, 0, sL, sa⟩, ⟨0, 0, 0, sa, sR⟩, ⟨0, 0, 0, sL, sb⟩, ⟨0, 0, 0, sb, sR⟩, ⟨0, 0, 0, sa, sb⟩] : List Contact) → _
      simp only [List.forall_mem_cons, List.not_mem_nil]
      refine ⟨by decide, by decide, by decide, by decide, by decide, fun c h => h.elim⟩
    exact this
  · intro x hx
    have hn : nodesF ex2 = [sL, sR, sa, sb] := by decide
    rw [hn] at hx
    have h1 := hm sL sa (by simp)
    have h2 := hm sa sR (by simp)
    have h3 := hm sL sb (by simp)
    have h4 := hm sb sR (by simp)
    simp only [List.mem_cons, List.not_mem_nil, or_false] at hx
    rcases hx with rfl | rfl | rfl | rfl
    · exact ⟨.refl, .step (.step .refl h2.2) h1.2⟩
    · exact ⟨.step (.step .refl h1.1) h2.1, .refl⟩
    · exact ⟨.step .refl h1.1, .step .refl h2.2⟩
    · exact ⟨.step .refl h3.1, .step .refl h4.2⟩
theorem alive2 {e : Int} {u : PT} (h : Red ex2 e u) : e = 14 := by
  rcases h with ⟨_, _, x, hr, _⟩ | ⟨_, _, h⟩
  · have := congrArg List.length (nosteps2 hr)
    rw [init2] at this
    simp at this
  · exact (h wf2).1
/-! ### The law -/
theorem law_bad {t : PT} {e : Int} (h : e = 0 ↔ Vld (t.leaves.length : Int) [] t ∧ (t.leaves.length : Int) = max 0 (t.leaves.length : Int)) (hg : ¬ (t.leaves.length : Int) > 40) : yes (40 < t.leaves.length ∨ ¬ Vld (t.leaves.length : Int) [] t) = decide (e ≠ 0) := by
  rw [Bool.eq_iff_iff, yes_iff, decide_eq_true_eq]
  constructor
  · rintro (h1 | h1) he
    · omega
    · exact h1 (h.1 he).1
  · intro he
    refine .inr fun hv => he (h.2 ⟨hv, by omega⟩)
theorem law_ok {t : PT} (h : yes (40 < t.leaves.length ∨ ¬ Vld (t.leaves.length : Int) [] t) = false) : t.leaves.length ≤ 40 ∧ Vld (t.leaves.length : Int) [] t := by
  have h' : ¬ (40 < t.leaves.length ∨ ¬ Vld (t.leaves.length : Int) [] t) := fun hp => by
    rw [yes_of hp] at h
    cases h
  refine ⟨by omega, Classical.not_not.1 fun hv => h' (.inr hv)⟩
/-- A reduction of an expanded tree. -/
theorem law_red {t u : PT} {cs : List Contact} {e : Int} (hv : Vld (cs.length : Int) [] t) (hl : t.leaves.length = cs.length) (hb : cs.length ≤ 98) (h : Red (layT t sL sR (0, cs)).2 e u) : e = 0 ∧ u = srtT t := by
  obtain ⟨h1, h2, h3⟩ := invert hv hl hb
  rcases h with ⟨h, _, hr⟩ | ⟨_, _, h⟩
  · exact ⟨h, h2 u hr⟩
  · exact absurd (h h1).2 h3
theorem red_none {cs : List Contact} {e : Int} {u : PT} (h : Red cs e u) (he : e ≠ 0) : u = .mk 0 0 [] := h.elim (fun h => absurd h.1 he) fun h => h.2.1
theorem red_some {cs : List Contact} {e : Int} {u : PT} (h : Red cs e u) (he : e = 0) : WF cs ∧ RedOk cs u := h.elim (fun h => h.2) fun h => absurd he h.1
/-! ### A rung's own tree -/
def lvE (xs : List Edge) : List Int := xs.flatMap fun x => x.t.leaves
theorem lvE_init (cs : List Contact) : ∀ k, k ≤ cs.length → lvE (initE cs k) = nums k
  | 0, _ => rfl
  | k + 1, h => by
    rw [initE_step cs k (by omega)]
    have ih := lvE_init cs k (by omega)
    unfold lvE nums at *
    rw [List.flatMap_append, ih, List.range_succ, List.map_append]
    rfl
theorem steps_inv {cs : List Contact} {rk : ByteArray → Nat} (h0 : ∀ c, c ∈ cs → rk c.frm < rk c.to) {ys : List Edge} (h : Steps (initE cs cs.length) ys) : (∀ x, x ∈ ys → rk x.frm < rk x.to) ∧ (lvE ys).Perm (nums cs.length) := by
  induction h with
  | refl =>
    refine ⟨fun x hx => ?_, by rw [lvE_init cs _ (Nat.le_refl _)]⟩
    obtain ⟨i, hi, rfl⟩ := initE_mem.1 hx
    exact h0 _ (List.getElem_mem hi)
  | @step ys zs _ s ih =>
    obtain ⟨h1, h2⟩ := ih
    have hne : ∀ x, x ∈ ys → x.frm ≠ x.to := fun x hx e => by
      have := h1 x hx
      rw [e] at this
      omega
    cases step_split hne s with
    | par x y rest hx e1 e2 hy =>
      have m1 := h1 x (hx.mem_iff.2 List.mem_cons_self)
      refine ⟨fun z hz => ?_, ?_⟩
      · rcases List.mem_cons.1 (hy.mem_iff.1 hz) with rfl | hz
        · exact m1
        · exact h1 z (hx.mem_iff.2 (List.mem_cons_of_mem _ (List.mem_cons_of_mem _ hz)))
      · refine (hy.flatMap_right _).trans (List.Perm.trans ?_ h2)
        refine List.Perm.trans ?_ (hx.flatMap_right _).symm
        simp only [List.flatMap_cons, joinT_leaves (k := 2) (.inr rfl), List.append_assoc]
        exact List.Perm.refl _
    | ser x y rest hx e1 _ _ _ _ hy =>
      have m1 := h1 x (hx.mem_iff.2 List.mem_cons_self)
      have m2 := h1 y (hx.mem_iff.2 (List.mem_cons_of_mem _ List.mem_cons_self))
      rw [e1] at m2
      refine ⟨fun z hz => ?_, ?_⟩
      · rcases List.mem_cons.1 (hy.mem_iff.1 hz) with rfl | hz
        · exact Nat.lt_trans m1 m2
        · exact h1 z (hx.mem_iff.2 (List.mem_cons_of_mem _ (List.mem_cons_of_mem _ hz)))
      · refine (hy.flatMap_right _).trans (List.Perm.trans ?_ h2)
        refine List.Perm.trans ?_ (hx.flatMap_right _).symm
        simp only [List.flatMap_cons, joinT_leaves (k := 1) (.inl rfl), List.append_assoc]
        exact List.Perm.refl _
theorem red_vld {cs : List Contact} {u : PT} (hw : WF cs) (h : RedOk cs u) : Vld (cs.length : Int) [] u ∧ u.leaves.length = cs.length ∧ srtT u = u := by
  obtain ⟨_, ⟨rk, hrk⟩, _⟩ := hw
  obtain ⟨x, hs, hok, hu⟩ := h
  have hp := (steps_inv hrk hs).2
  have hx : x.leaves.Perm (nums cs.length) := by simpa [lvE] using hp
  have hn : x.leaves.Nodup := hx.nodup_iff.2 (nums_nodup _)
  have e := srtT_of hok hn hu
  subst e
  have hss := srtT_sorts hok
  obtain ⟨a, b⟩ := vld_of hss.ok (hss.leaves.trans hx)
  exact ⟨a, b, srtT_idem hok hn⟩
end Go.Proofs.YtolggjmgfijjfaaGreatDoor.Sep

/- From a contract to a law's row: reading the arguments, the post of a law. Nothing here speaks of a program. -/
namespace Go.Proofs.YtolggjmgfijjfaaGreatDoor.Sep
open Go Go.Proofs Go.ChangeShapes Go.WideShapes Go.RowKit

section
variable {H : Type} {enc : TypeId × Value → H} {P : Program}
/-- All that there is may be taken as settled. -/
theorem start_all {Γ : List Fact} {w : World} (hok : ∀ F, F ∈ Γ → F.ok (fun k => k < w.heap.size) w) (hno : ∀ F, F ∈ Γ → ∀ k, ¬ F.own k) : Start Γ (fun k => k < w.heap.size) w :=
  ⟨hok, List.Pairwise.imp_of_mem (R := fun _ _ => True) (fun {F F'} hF _ _ k hk => (hno F hF k hk).elim) (List.pairwise_of_forall fun _ _ => trivial), fun F hF k hk => (hno F hF k hk).elim, fun _ h => h, fun _ h => h, fun _ h => .inl h, fun _ _ _ => rfl, Nat.le_refl _, rfl, rfl, rfl, fun _ => Nat.le_refl _⟩
theorem Spec.calls {μ : Prop} {f : FuncId} {args : Array Value} {Γ : List Fact} {R : Value → List Fact → Prop} (h : Spec μ P f args Γ R) (w : World) (hok : ∀ F, F ∈ Γ → F.ok (fun k => k < w.heap.size) w) (hno : ∀ F, F ∈ Γ → ∀ k, ¬ F.own k) :
    Calls P f args w fun e w' => ∃ v Δ, e = .returned v ∧ R v Δ ∧ Below w.heap.size w w' :=
  (h w _ (start_all hok hno)).mono fun e w' ⟨v, Δ, S', he, hR, hh⟩ => ⟨v, Δ, he, hR, hh.os, hh.tape, hh.output, hh.size, fun k hk => hh.kept k hk fun ⟨F, hF, ho⟩ => hno F hF k ho⟩
theorem trodAll_stays (hl : laidOutB P = true) {W W' : World} {sp : Nat → Bool} : ∀ {ts : List TypeId} {vs : List Value} {ds : List (DataW H)} {ps : List MemPlace}, (∀ t, t ∈ ts → P.readableRec t = true ∧ t < P.types.size) →
    DataW.TrodAll enc P W 0 (fun _ => true) true ts vs ds ps → (∀ x, x ∈ ps → W.sameAt W' x) → (∀ x, x ∈ ps → sp x.block = true) → DataW.TrodAll enc P W' 0 sp true ts vs ds ps
  | [], _, _, _, _, h, _, _ => by
    obtain ⟨rfl, rfl, rfl⟩ := trodAll_nil h
    exact trodAll_mk0
  | t :: ts, _, _, _, hp, h, hs, hsp => by
    obtain ⟨v, vs, d, ds, p, q, rfl, rfl, rfl, h1, h2⟩ := trodAll_cons h
    have ht := hp t List.mem_cons_self
    exact ⟨p, q, WideElems.Trod_stays hl ht.1 ht.2 h1 (fun x hx => hs x (List.mem_append_left _ hx)) (fun x hx => hsp x (List.mem_append_left _ hx)),
      trodAll_stays hl (fun t ht => hp t (List.mem_cons_of_mem _ ht)) h2 (fun x hx => hs x (List.mem_append_right _ hx)) (fun x hx => hsp x (List.mem_append_right _ hx)), rfl⟩
/-- WHAT A LAW's ROW ASKS BEHIND THE CALL: true; the arguments read as they did. -/
theorem law_post {f : Func} {s : ChangeSpec} {apart fresh handsOn again : Bool} {W W' : World} {args : Array Value} {ds gs : List (DataW H)} {before : List MemPlace} {tb : TypeId}
    (hs : s.vars = []) (hfn : s.fn H (ds ++ gs) = { results := [.lit (.bool true)], args := ds }) (hr : f.resultTypes = #[tb]) (hb : P.underlying tb = some .bool)
    (hl : laidOutB P = true) (hp : ∀ t, t ∈ f.params.toList → P.readableRec t = true ∧ t < P.types.size)
    (hW : DataW.Whole enc P f.params.toList s.vars apart W args.toList ds gs before) (hbel : Below W.heap.size W W') : s.post enc P f apart fresh handsOn again W args (.bool true) W' := by
  have hW' := hW
  obtain ⟨p, q, hA, hV, rfl, hz, hn⟩ := hW
  rw [hs] at hV
  obtain ⟨rfl, rfl⟩ := trodVars_none hV
  have hlt : ∀ x, x ∈ p → x.block < W.heap.size := fun x hx => hW'.lt x (List.mem_append_left _ hx)
  have hargs : ∀ sp : Nat → Bool, (∀ x, x ∈ p → sp x.block = true) → DataW.TrodAll enc P W' 0 sp true f.params.toList args.toList ds p := fun sp hsp => trodAll_stays hl hp hA (fun x hx => hbel.same (hlt x hx)) hsp
  have hres : ∀ (b : Nat) (sp : Nat → Bool) (hd : Bool), DataW.TrodAll enc P W' b sp hd f.resultTypes.toList ((Value.bool true).resultList f.resultTypes.size) [.lit (.bool true)] [] := fun b sp hd => by
    rw [hr]
    exact trodAll_cons_mk (shut_bool hb true) trodAll_mk0
  have hvars : ∀ sp : Nat → Bool, DataW.TrodVars enc P W' sp s.vars [] [] := fun sp => by rw [hs]; rfl
  refine ⟨ds, [], p ++ [], [], p, [], hW', ?_, ?_, ?_, World.keptBut_mono (fun x hx => ⟨hx, .inr (.inl (by simpa using hx))⟩) (hbel.frame (· ∈ p ++ [])), fun _ => ?_⟩
  · rw [hfn]; exact hres _ _ _
  · rw [hfn]; exact hargs _ fun x hx => by simpa using hlt x hx
  · rw [hfn]; exact hvars _
  · refine ⟨?_, [.lit (.bool true)] ++ ds, [], ([] ++ p) ++ [], ⟨[] ++ p, [], trodAll_append (hargs _ fun _ _ => rfl) (hres _ _ _), hvars _, rfl, ?_, ?_⟩, fun x hx _ => by simpa using hx⟩
    · exact ok_one hr rfl (okWide_bool_mk hb true)
    · intro b off hx
      have hin : MemPlace.cell b off ∈ p ++ [] := by simpa using hx
      rw [hbel.frozen (hW'.lt _ hin)]
      exact hz b off hin
    · intro ha
      simpa using hn ha
/-! ### Variables that a row lists -/
theorem laid_at {w : World} : ∀ {laid : List (String × DataW Unit)} {ps : List MemPlace}, DataW.LaidVars P w laid ps → ∀ n d, (n, d) ∈ laid →
    ∃ g t cs fuel p, P.globalNamed n = some g ∧ (P.globals[g]?).map (·.type) = some t ∧ w.var? P n = some cs ∧ DataW.trod (fun _ => ()) P w 0 (fun _ => true) false fuel t cs.toList = some (d, p)
  | [], _, _, n, d, h => by cases h
  | (m, e) :: r, ps, hl, n, d, h => by
    obtain ⟨g, t, cs, fuel, p, q, h1, h2, h3, h4, h5, _⟩ := hl
    rcases List.mem_cons.1 h with h | h
    · injection h with ha hb
      subst ha hb
      exact ⟨g, t, cs, fuel, p, h1, h2, h3, h4⟩
    · exact laid_at h5 n d h
theorem laidH_at {w : World} {laid : List (String × DataW Unit)} (hno : laid.filter (fun x => x.2.handleName?.isSome) = []) (h : laidMetH P laid w) : ∀ n d, (n, d) ∈ laid →
    ∃ g t cs fuel p, P.globalNamed n = some g ∧ (P.globals[g]?).map (·.type) = some t ∧ w.var? P n = some cs ∧ DataW.trod (fun _ => ()) P w 0 (fun _ => true) false fuel t cs.toList = some (d, p) := by
  unfold laidMetH at h
  rw [hno] at h
  obtain ⟨ps, hl, _⟩ := h
  exact laid_at hl
theorem var_lt {w : World} {n : String} {g : Nat} {cs : Array Value} (hg : P.globalNamed n = some g) (h : w.var? P n = some cs) : g < w.heap.size := by
  unfold World.var? at h
  rw [hg] at h
  simp only [Option.bind_some] at h
  split at h
  · rename_i h1
    exact (Array.getElem?_eq_some_iff.1 h1).1
  · cases h
/-- A table of rows of numbers. -/
theorem rows_of_tab {w : World} {base : Nat} {sp : Nat → Bool} {held : Bool} {fuel : Nat} {t e i : TypeId} {n m : Nat} {k : IntKind} {cs : List Value} {rows : List (List Int)} {p : List MemPlace}
    (ht : P.underlying t = some (.array n e)) (he : P.underlying e = some (.array m i)) (hi : P.underlying i = some (.int k)) (hci : P.cellsOf i = 1) (hce : P.cellsOf e = m) (hct : P.cellsOf t = n * m) (hn : rows.length = n)
    (h : DataW.trod enc P w base sp held fuel t cs = some (.agg (rows.map (Lib.tabData k)), p)) : cs.length = n * m ∧ ∀ (j : Nat) (hj : j < rows.length), (cs.drop (j * m)).take m = rows[j].map fun z => Value.int k z := by
  obtain ⟨xs, f, rfl, hx, hl, hxl, hg⟩ := DataW.trod_array ht h
  refine ⟨by rw [hl, hct], fun j hj => ?_⟩
  have h1 := hg j (by omega)
  have hjx : j < xs.length := by omega
  rw [List.getElem?_eq_getElem hjx, hce] at h1
  have h2 : xs[j].1 = Lib.tabData k rows[j] := by
    injection hx with hx _
    injection hx with hx
    have := congrArg (·[j]?) hx
    simp only [List.getElem?_map, List.getElem?_eq_getElem hj, List.getElem?_eq_getElem hjx, Option.map_some] at this
    injection this with this
    exact this.symm
  have h3 : DataW.trod enc P w base sp held f e ((cs.drop (j * m)).take m) = some (Lib.tabData k rows[j], xs[j].2) := by rw [h1, ← h2]
  exact Lib.cells_of_tab he hi hci hce h3
/-! ### Trees -/
structure TreeT (P : Program) (tt ts ti : TypeId) (f0 f1 f2 : Field) : Prop where
  st : P.underlying tt = some (.struct #[f0, f1, f2])
  o0 : f0.offset = 0
  o1 : f1.offset = 1
  o2 : f2.offset = 2
  t0 : f0.type = ti
  t1 : f1.type = ti
  t2 : f2.type = ts
  it : P.underlying ti = some (.int .i64)
  sl : P.underlying ts = some (.slice tt)
  ci : P.cellsOf ti = 1
  cs : P.cellsOf ts = 1
  ct : P.cellsOf tt = 3
theorem cell_lt {w : World} {a : Addr} {v : Value} (h : w.cell? a = some v) : a.block < w.heap.size := by
  rcases Nat.lt_or_ge a.block w.heap.size with h1 | h1
  · exact h1
  · simp [World.cell?, Array.getElem?_eq_none h1] at h
theorem choose_list {α : Type} {n : Nat} {p : Nat → α → Prop} (h : ∀ i, i < n → ∃ x, p i x) : ∃ l : List α, l.length = n ∧ ∀ (i : Nat) (hi : i < l.length), p i l[i] := by
  induction n with
  | zero => exact ⟨[], rfl, fun i hi => absurd hi (Nat.not_lt_zero _)⟩
  | succ n ih =>
    obtain ⟨l, hl, hp⟩ := ih fun i hi => h i (by omega)
    obtain ⟨x, hx⟩ := h n (by omega)
    refine ⟨l ++ [x], by simp [hl], fun i hi => ?_⟩
    rcases Nat.lt_or_ge i l.length with h1 | h1
    · rw [List.getElem_append_left h1]; exact hp i h1
    · have : i = n := by simp at hi; omega
      subst this
      rw [List.getElem_append_right (by omega)]
      simpa [hl] using hx
theorem len3 {cs : List Value} (h : cs.length = 3) : ∃ a b c, cs = [a, b, c] := by
  match cs, h with
  | [a, b, c], _ => exact ⟨a, b, c, rfl⟩
theorem open_tree {tt ts ti : TypeId} {f0 f1 f2 : Field} (T : TreeT P tt ts ti f0 f1 f2) {w : World} {base : Nat} {sp : Nat → Bool} {hd : Bool} : ∀ (fuel : Nat) (cs : List Value) (x : DataW H × List MemPlace), DataW.trod enc P w base sp hd fuel tt cs = some x →
    ∃ t : PT, treeK (fun k => k < w.heap.size) w t cs := by
  intro fuel
  induction fuel using Nat.strongRecOn with
  | _ fuel ih =>
    intro cs x h
    obtain ⟨xs, n, rfl, _, hl, hxl, hg⟩ := DataW.trod_struct T.st h
    rw [T.ct] at hl
    obtain ⟨a, b, c, rfl⟩ := len3 hl
    have hx3 : xs.length = 3 := by simpa using hxl
    have g0 := hg 0 f0 rfl
    have g1 := hg 1 f1 rfl
    have g2 := hg 2 f2 rfl
    rw [List.getElem?_eq_getElem (by omega), T.t0, T.ci, T.o0] at g0
    rw [List.getElem?_eq_getElem (by omega), T.t1, T.ci, T.o1] at g1
    rw [List.getElem?_eq_getElem (by omega), T.t2, T.cs, T.o2] at g2
    obtain ⟨k, hk, _⟩ := DataW.trod_int T.it g0
    obtain ⟨m, hm, _⟩ := DataW.trod_int T.it g1
    have hk' : a = .int .i64 k := by simpa using hk
    have hm' : b = .int .i64 m := by simpa using hm
    subst hk' hm'
    rcases DataW.trod_slice T.sl g2 with ⟨hc, _⟩ | ⟨p, len, cap, elems, rest, n', rfl, hc, _, hb, hlc, hcm, hel, hget, _⟩
    · have hc' : c = .slice none 0 0 := by simpa using hc
      subst hc'
      exact ⟨.mk k m [], mkTreeNil⟩
    · have hc' : c = .slice (some p) len cap := by simpa using hc
      subst hc'
      have hkid : ∀ i, i < len → ∃ t : PT, p.block < w.heap.size ∧ ∃ cs', treeK (fun k => k < w.heap.size) w t cs' ∧ ∀ j u, cs'[j]? = some u → w.cell? (p.add (i * 3 + j)) = some u := by
        intro i hi
        have h1 := hget i hi
        rw [List.getElem?_eq_getElem (by omega), T.ct] at h1
        obtain ⟨cs', hcs, htr⟩ := Option.bind_eq_some_iff.1 h1
        obtain ⟨_, hcl, hcell⟩ := World.cells?_some hcs
        obtain ⟨t, ht⟩ := ih n' (by omega) cs' _ htr
        have hblk : p.block < w.heap.size := by
          have h0 := hcell 0 (by omega)
          rw [List.getElem?_eq_getElem (by omega)] at h0
          have := cell_lt h0
          rwa [add_block, add_block] at this
        refine ⟨t, hblk, cs', ht, fun j u hu => ?_⟩
        have hj : j < 3 := by rw [← hcl]; exact (List.getElem?_eq_some_iff.1 hu).1
        rw [← Addr.add_add, hcell j hj]
        exact hu
      obtain ⟨l, hll, hlp⟩ := choose_list hkid
      subst hll
      refine ⟨.mk k m l, mkTree ⟨hlc, by unfold maxLen at hcm; omega, fun j hj => ?_⟩⟩
      obtain ⟨hS, cs', h1, h2⟩ := hlp j hj
      exact ⟨p, rfl, hS, cs', h1, h2⟩
theorem arg_tree {tt ts ti : TypeId} {f0 f1 f2 : Field} (T : TreeT P tt ts ti f0 f1 f2) {w : World} {r : Reach} {b0 base : Nat} {sp : Nat → Bool} {hd : Bool} {v : Value} {d : DataW H} {ps : List MemPlace} (hval : Value.okWide P w r b0 tt v) (h : DataW.Trod enc P w base sp hd tt v d ps) :
    ∃ (t : PT) (A : Option Addr) (c : Nat), v = .agg #[.int .i64 t.kind, .int .i64 t.n, .slice A t.kids.length c] ∧ (rd kTree A c t.kids).ok (fun k => k < w.heap.size) w := by
  obtain ⟨cs, rfl, _⟩ : ∃ cs, v = .agg cs ∧ cs.size = P.cellsOf tt ∧ Row.okWide P w r b0 tt cs := by
    unfold Value.okWide at hval
    rw [T.st] at hval
    exact hval
  obtain ⟨fuel, hf⟩ := h
  obtain ⟨t, ht⟩ := open_tree T fuel _ _ hf
  obtain ⟨⟨A, c⟩, hcs, hfact⟩ := vTree t _ _ _ ht
  refine ⟨t, A, c, ?_, (hfact _ List.mem_cons_self).1⟩
  have : cs.toList = [.int .i64 t.kind, .int .i64 t.n, .slice A t.kids.length c] := hcs
  rw [← this]
/-! ### Rungs -/
def fld (name : String) (t off b : Nat) : Field := { name := name, type := t, offset := off, embedded := false, tag := "", pkgPath := "", byteOffset := b }
structure RungT (P : Program) (tr tcs tls tc tl ta ti ts : TypeId) : Prop where
  r : P.underlying tr = some (.struct #[fld "Label" ts 0 0, fld "Contacts" tcs 1 16, fld "Coils" tls 2 40, fld "Jump" ts 3 64])
  cs : P.underlying tcs = some (.slice tc)
  ls : P.underlying tls = some (.slice tl)
  c : P.underlying tc = some (.struct #[fld "Kind" ti 0 0, fld "A" ta 1 8, fld "From" ts 3 24, fld "To" ts 4 40])
  l : P.underlying tl = some (.struct #[fld "Kind" ti 0 0, fld "A" ta 1 8])
  a : P.underlying ta = some (.struct #[fld "Space" ti 0 0, fld "N" ti 1 8])
  i : P.underlying ti = some (.int .i64)
  s : P.underlying ts = some .string
  zi : P.cellsOf ti = 1
  zs : P.cellsOf ts = 1
  za : P.cellsOf ta = 2
  zc : P.cellsOf tc = 5
  zl : P.cellsOf tl = 3
  zcs : P.cellsOf tcs = 1
  zls : P.cellsOf tls = 1
  zr : P.cellsOf tr = 4
theorem len2 {cs : List Value} (h : cs.length = 2) : ∃ a b, cs = [a, b] := by
  match cs, h with
  | [a, b], _ => exact ⟨a, b, rfl⟩
theorem len4 {cs : List Value} (h : cs.length = 4) : ∃ a b c d, cs = [a, b, c, d] := by
  match cs, h with
  | [a, b, c, d], _ => exact ⟨a, b, c, d, rfl⟩
theorem len5 {cs : List Value} (h : cs.length = 5) : ∃ a b c d e, cs = [a, b, c, d, e] := by
  match cs, h with
  | [a, b, c, d, e], _ => exact ⟨a, b, c, d, e, rfl⟩
section
variable {tr tcs tls tc tl ta ti ts : TypeId} {w : World} {base : Nat} {sp : Nat → Bool} {hd : Bool}
theorem open_addr (T : RungT P tr tcs tls tc tl ta ti ts) {fuel : Nat} {cs : List Value} {x : DataW H × List MemPlace} (h : DataW.trod enc P w base sp hd fuel ta cs = some x) : ∃ k n, cs = [.int .i64 k, .int .i64 n] := by
  obtain ⟨xs, n, rfl, _, hl, hxl, hg⟩ := DataW.trod_struct T.a h
  rw [T.za] at hl
  obtain ⟨a, b, rfl⟩ := len2 hl
  have hx : xs.length = 2 := by simpa using hxl
  have g0 := hg 0 (fld "Space" ti 0 0) rfl
  have g1 := hg 1 (fld "N" ti 1 8) rfl
  simp only [fld] at g0 g1
  rw [T.zi] at g0 g1
  rw [List.getElem?_eq_getElem (by omega)] at g0 g1
  obtain ⟨k, hk, _⟩ := DataW.trod_int T.i g0
  obtain ⟨m, hm, _⟩ := DataW.trod_int T.i g1
  have hk' : a = .int .i64 k := by simpa using hk
  have hm' : b = .int .i64 m := by simpa using hm
  exact ⟨k, m, by rw [hk', hm']⟩
theorem open_contact (T : RungT P tr tcs tls tc tl ta ti ts) {fuel : Nat} {cs : List Value} {x : DataW H × List MemPlace} (h : DataW.trod enc P w base sp hd fuel tc cs = some x) : ∃ y : Contact, cs = [.int .i64 y.kind, .int .i64 y.sp, .int .i64 y.n, .string y.frm, .string y.to] := by
  obtain ⟨xs, n, rfl, _, hl, hxl, hg⟩ := DataW.trod_struct T.c h
  rw [T.zc] at hl
  obtain ⟨a, b, c, d, e, rfl⟩ := len5 hl
  have hx : xs.length = 4 := by simpa using hxl
  have g0 := hg 0 (fld "Kind" ti 0 0) rfl
  have g1 := hg 1 (fld "A" ta 1 8) rfl
  have g2 := hg 2 (fld "From" ts 3 24) rfl
  have g3 := hg 3 (fld "To" ts 4 40) rfl
  simp only [fld] at g0 g1 g2 g3
  rw [T.zi] at g0
  rw [T.za] at g1
  rw [T.zs] at g2 g3
  rw [List.getElem?_eq_getElem (by omega)] at g0 g1 g2 g3
  obtain ⟨k, hk, _⟩ := DataW.trod_int T.i g0
  obtain ⟨u, v, huv⟩ := open_addr T g1
  obtain ⟨f, hf, _⟩ := DataW.trod_string T.s g2
  obtain ⟨t, ht, _⟩ := DataW.trod_string T.s g3
  have hk' : a = .int .i64 k := by simpa using hk
  have hu' : b = .int .i64 u ∧ c = .int .i64 v := by simpa using huv
  have hf' : d = .string f := by simpa using hf
  have ht' : e = .string t := by simpa using ht
  exact ⟨⟨k, u, v, f, t⟩, by rw [hk', hu'.1, hu'.2, hf', ht']⟩
theorem open_coil (T : RungT P tr tcs tls tc tl ta ti ts) {fuel : Nat} {cs : List Value} {x : DataW H × List MemPlace} (h : DataW.trod enc P w base sp hd fuel tl cs = some x) : ∃ y : Coil, cs = [.int .i64 y.kind, .int .i64 y.sp, .int .i64 y.n] := by
  obtain ⟨xs, n, rfl, _, hl, hxl, hg⟩ := DataW.trod_struct T.l h
  rw [T.zl] at hl
  obtain ⟨a, b, c, rfl⟩ := len3 hl
  have hx : xs.length = 2 := by simpa using hxl
  have g0 := hg 0 (fld "Kind" ti 0 0) rfl
  have g1 := hg 1 (fld "A" ta 1 8) rfl
  simp only [fld] at g0 g1
  rw [T.zi] at g0
  rw [T.za] at g1
  rw [List.getElem?_eq_getElem (by omega)] at g0 g1
  obtain ⟨k, hk, _⟩ := DataW.trod_int T.i g0
  obtain ⟨u, v, huv⟩ := open_addr T g1
  have hk' : a = .int .i64 k := by simpa using hk
  have hu' : b = .int .i64 u ∧ c = .int .i64 v := by simpa using huv
  exact ⟨⟨k, u, v⟩, by rw [hk', hu'.1, hu'.2]⟩
/-- A slice whose elements can be read. -/
theorem open_slice {α : Type} (e : Kd α) {t te : TypeId} (ht : P.underlying t = some (.slice te)) (hz : P.cellsOf te = e.sz) (hpos : 0 < e.sz) (hel : ∀ (f : Nat) cs x, DataW.trod enc P w base sp hd f te cs = some x → ∃ y, e.K (fun k => k < w.heap.size) w y cs)
    {fuel : Nat} {cs : List Value} {x : DataW H × List MemPlace} (h : DataW.trod enc P w base sp hd fuel t cs = some x) : ∃ A c l, cs = [.slice A l.length c] ∧ (rd e A c l).ok (fun k => k < w.heap.size) w := by
  rcases DataW.trod_slice ht h with ⟨rfl, _⟩ | ⟨p, len, cap, elems, rest, n', rfl, rfl, _, hb, hlc, hcm, hlen, hget, _⟩
  · exact ⟨none, 0, [], rfl, Nat.le_refl _, by omega, fun j hj => absurd hj (Nat.not_lt_zero _)⟩
  · have hkid : ∀ i, i < len → ∃ y : α, p.block < w.heap.size ∧ ∃ cs', e.K (fun k => k < w.heap.size) w y cs' ∧ ∀ j u, cs'[j]? = some u → w.cell? (p.add (i * e.sz + j)) = some u := by
      intro i hi
      have h1 := hget i hi
      rw [List.getElem?_eq_getElem (by omega), hz] at h1
      obtain ⟨cs', hcs, htr⟩ := Option.bind_eq_some_iff.1 h1
      obtain ⟨_, hcl, hcell⟩ := World.cells?_some hcs
      obtain ⟨y, hy⟩ := hel n' cs' _ htr
      have hblk : p.block < w.heap.size := by
        have h0 := hcell 0 (by omega)
        rw [List.getElem?_eq_getElem (by omega)] at h0
        have := cell_lt h0
        rwa [add_block, add_block] at this
      refine ⟨y, hblk, cs', hy, fun j u hu => ?_⟩
      have hj : j < e.sz := by rw [← hcl]; exact (List.getElem?_eq_some_iff.1 hu).1
      rw [← Addr.add_add, hcell j hj]
      exact hu
    obtain ⟨l, hll, hlp⟩ := choose_list hkid
    subst hll
    refine ⟨some p, cap, l, rfl, hlc, by unfold maxLen at hcm; omega, fun j hj => ?_⟩
    obtain ⟨hS, cs', h1, h2⟩ := hlp j hj
    exact ⟨p, rfl, hS, cs', h1, h2⟩
theorem arg_rung (T : RungT P tr tcs tls tc tl ta ti ts) {r : Reach} {b0 : Nat} {v : Value} {d : DataW H} {ps : List MemPlace} (hval : Value.okWide P w r b0 tr v) (h : DataW.Trod enc P w base sp hd tr v d ps) :
    ∃ (cs : List Contact) (ls : List Coil) (lb jp : ByteArray) (A B : Option Addr) (c d : Nat), v = .agg #[.string lb, .slice A cs.length c, .slice B ls.length d, .string jp] ∧ (rd kContact A c cs).ok (fun k => k < w.heap.size) w ∧ (rd kCoil B d ls).ok (fun k => k < w.heap.size) w := by
  obtain ⟨vs, rfl, _⟩ : ∃ cs, v = .agg cs ∧ cs.size = P.cellsOf tr ∧ Row.okWide P w r b0 tr cs := by
    unfold Value.okWide at hval
    rw [T.r] at hval
    exact hval
  obtain ⟨fuel, hf⟩ := h
  obtain ⟨xs, n, rfl, _, hl, hxl, hg⟩ := DataW.trod_struct T.r hf
  rw [T.zr] at hl
  obtain ⟨p, q, s, u, hvs⟩ := len4 hl
  have hvs' : vs.toList = [p, q, s, u] := hvs
  rw [hvs] at hg
  have hx : xs.length = 4 := by simpa using hxl
  have g0 := hg 0 (fld "Label" ts 0 0) rfl
  have g1 := hg 1 (fld "Contacts" tcs 1 16) rfl
  have g2 := hg 2 (fld "Coils" tls 2 40) rfl
  have g3 := hg 3 (fld "Jump" ts 3 64) rfl
  simp only [fld] at g0 g1 g2 g3
  rw [T.zs] at g0 g3
  rw [T.zcs] at g1
  rw [T.zls] at g2
  rw [List.getElem?_eq_getElem (by omega)] at g0 g1 g2 g3
  obtain ⟨lb, hlb, _⟩ := DataW.trod_string T.s g0
  obtain ⟨A, c, cs, hcs, rc⟩ := open_slice kContact T.cs T.zc (by decide) (fun f cs x h => by obtain ⟨y, hy⟩ := open_contact T h; exact ⟨y, hy⟩) g1
  obtain ⟨B, d, ls, hls, rl⟩ := open_slice kCoil T.ls T.zl (by decide) (fun f cs x h => by obtain ⟨y, hy⟩ := open_coil T h; exact ⟨y, hy⟩) g2
  obtain ⟨jp, hjp, _⟩ := DataW.trod_string T.s g3
  have e0 : p = .string lb := by simpa using hlb
  have e1 : q = .slice A cs.length c := by simpa using hcs
  have e2 : s = .slice B ls.length d := by simpa using hls
  have e3 : u = .string jp := by simpa using hjp
  refine ⟨cs, ls, lb, jp, A, B, c, d, ?_, rc, rl⟩
  rw [← e0, ← e1, ← e2, ← e3, ← hvs']
end
end
end Go.Proofs.YtolggjmgfijjfaaGreatDoor.Sep

/- The accumulator machine on plain data, and the code of a tree. Nothing here speaks of a program. -/
namespace Go.Proofs.YtolggjmgfijjfaaGreatDoor.Sep
open Go

structure Ins where
  op : Int
  sp : Int
  n : Int
  arg : Int
/-- Bits: inputs, outputs, memory; the error of a reading. -/
structure Bits where
  inp : List Bool
  q : List Bool
  m : List Bool
def Bits.space (V : Bits) (sp : Int) : List Bool := if sp = 0 then V.inp else if sp = 1 then V.q else V.m
def getB (l : List Bool) (n : Int) : Bool × Int := if 0 ≤ n ∧ n < l.length then (l.getD n.toNat false, 0) else (false, 3)
def Bits.rd (V : Bits) (sp n : Int) : Bool × Int := if 0 ≤ sp ∧ sp < 3 then getB (V.space sp) n else (false, 8)
def isEdge (c : Contact) : Bool := decide (c.kind = 2 ∨ c.kind = 3)
def slotN (cs : List Contact) (i : Nat) : Nat := (cs.take i).countP isEdge
structure Env extends Bits where
  cs : List Contact
  e : List Bool
def Env.bit (V : Env) (i : Nat) : Bool := match V.cs[i]? with
  | some c => (V.rd c.sp c.n).1
  | none => false
def onOf (kind : Int) (v was : Bool) : Bool := if kind < 2 then v == decide (kind = 0) else (v != was) && (v == decide (kind = 2))
def Env.on (V : Env) (i : Nat) : Bool := match V.cs[i]? with
  | some c => onOf c.kind (V.bit i) (V.e.getD (slotN V.cs i) false)
  | none => false
def Env.set1 (V : Env) (E : List Bool) (i : Nat) : List Bool := match V.cs[i]? with
  | some c => if isEdge c then E.set (slotN V.cs i) (V.bit i) else E
  | none => E
def Env.after (V : Env) (l : List Nat) : List Bool := l.foldl V.set1 V.e
/-- The reference's evaluation of the contacts comes through. -/
def Env.okAt (V : Env) (i : Nat) : Prop := ∀ c, V.cs[i]? = some c → 0 ≤ c.kind ∧ c.kind ≤ 3 ∧ (V.rd c.sp c.n).2 = 0 ∧ (isEdge c = true → slotN V.cs i < V.e.length)
def Env.ok (V : Env) : Prop := ∀ i, i < V.cs.length → V.okAt i
structure MS where
  acc : Bool
  stk : List Bool
  E : List Bool
def logicV (op : Int) (v : Bool) : Bool := if op = 1 ∨ op = 3 ∨ op = 5 then !v else v
def logicA (op : Int) (a v : Bool) : Bool := if op = 0 ∨ op = 1 then v else if op = 2 ∨ op = 3 then a && v else a || v
def Bits.exec (V : Bits) (x : Ins) (s : MS) : Option MS :=
  if 0 ≤ x.op ∧ x.op ≤ 5 then
    if (V.rd x.sp x.n).2 = 0 then some ⟨logicA x.op s.acc (logicV x.op (V.rd x.sp x.n).1), s.stk, s.E⟩ else none
  else if x.op = 6 ∨ x.op = 7 then
    if (V.rd x.sp x.n).2 = 0 ∧ 0 ≤ x.arg ∧ x.arg < s.E.length then
      some ⟨((V.rd x.sp x.n).1 != s.E.getD x.arg.toNat false) && ((V.rd x.sp x.n).1 == decide (x.op = 6)), s.stk, s.E.set x.arg.toNat (V.rd x.sp x.n).1⟩
    else none
  else if x.op = 8 then if s.stk.length < 64 then some ⟨s.acc, s.stk ++ [s.acc], s.E⟩ else none
  else if x.op = 9 ∨ x.op = 10 then
    if 0 < s.stk.length then some ⟨if x.op = 9 then s.stk.getD (s.stk.length - 1) false && s.acc else s.stk.getD (s.stk.length - 1) false || s.acc, s.stk.take (s.stk.length - 1), s.E⟩ else none
  else none
def Bits.run (V : Bits) : List Ins → MS → Option MS
  | [], s => some s
  | x :: r, s => (V.exec x s).bind (V.run r)
theorem runs_append (V : Bits) : ∀ (l r : List Ins) (s : MS), V.run (l ++ r) s = (V.run l s).bind (V.run r)
  | [], r, s => rfl
  | x :: l, r, s => by
    rw [List.cons_append, Bits.run, Bits.run]
    cases V.exec x s with
    | none => rfl
    | some s' => exact runs_append V l r s'
theorem run_one (V : Bits) (x : Ins) (s : MS) : V.run [x] s = V.exec x s := by
  rw [Bits.run]
  cases V.exec x s <;> rfl
/-- A run that comes through has come through at every place. -/
theorem run_at {V : Bits} {l : List Ins} {s s' : MS} (h : V.run l s = some s') (k : Nat) (hk : k < l.length) : ∃ a b, V.run (l.take k) s = some a ∧ V.exec l[k] a = some b ∧ V.run (l.take (k + 1)) s = some b := by
  have h1 : l = l.take (k + 1) ++ l.drop (k + 1) := (List.take_append_drop _ _).symm
  rw [h1, runs_append, take_succ l k hk, runs_append] at h
  cases ha : V.run (l.take k) s with
  | none => rw [ha] at h; simp at h
  | some a =>
    rw [ha] at h
    simp only [Option.bind_some] at h
    rw [run_one] at h
    cases hb : V.exec l[k] a with
    | none => rw [hb] at h; simp at h
    | some b => exact ⟨a, b, rfl, hb, by rw [take_succ l k hk, runs_append, ha, Option.bind_some, run_one, hb]⟩
/-! ### The code of a tree -/
def loadI (cs : List Contact) (i : Nat) : List Ins := match cs[i]? with
  | some c => [⟨if c.kind < 2 then c.kind else c.kind + 4, c.sp, c.n, if isEdge c then (slotN cs i : Int) else 0⟩]
  | none => []
def edgeAtN (cs : List Contact) (i : Nat) : Bool := match cs[i]? with
  | some c => isEdge c
  | none => false
def joinI (cs : List Contact) (k : Int) (i : Nat) : List Ins := match cs[i]? with
  | some c => [⟨2 * k + c.kind, c.sp, c.n, 0⟩]
  | none => []
mutual
def layC (cs : List Contact) : PT → List Ins
  | .mk k n kids => if k = 0 then loadI cs n.toNat else layH cs k kids
def layH (cs : List Contact) (k : Int) : List PT → List Ins
  | [] => []
  | x :: r => layC cs x ++ layK cs k r
def layK (cs : List Contact) (k : Int) : List PT → List Ins
  | [] => []
  | x :: r => (if x.kind = 0 ∧ edgeAtN cs x.n.toNat = false then joinI cs k x.n.toNat else ⟨8, 0, 0, 0⟩ :: (layC cs x ++ [⟨8 + k, 0, 0, 0⟩])) ++ layK cs k r
end
mutual
def evalT (on : Nat → Bool) : PT → Bool
  | .mk k n kids => if k = 1 then allT on kids else if k = 2 then anyT on kids else on n.toNat
def allT (on : Nat → Bool) : List PT → Bool
  | [] => true
  | x :: r => evalT on x && allT on r
def anyT (on : Nat → Bool) : List PT → Bool
  | [] => false
  | x :: r => evalT on x || anyT on r
end
theorem allT_eq (on : Nat → Bool) : ∀ l, allT on l = !(l.any fun x => !evalT on x)
  | [] => rfl
  | x :: r => by rw [allT, List.any_cons, allT_eq on r]; cases evalT on x <;> simp
theorem anyT_eq (on : Nat → Bool) : ∀ l, anyT on l = l.any fun x => evalT on x
  | [] => rfl
  | x :: r => by rw [anyT, List.any_cons, anyT_eq on r]
/-! ### Slots -/
theorem slotN_succ (cs : List Contact) (i : Nat) (h : i < cs.length) : slotN cs (i + 1) = slotN cs i + if isEdge cs[i] = true then 1 else 0 := by
  unfold slotN
  exact countP_take _ _ _ h
theorem slotN_mono (cs : List Contact) {i j : Nat} (h : i ≤ j) : slotN cs i ≤ slotN cs j := by
  unfold slotN
  exact ((List.take_sublist_take_left h).countP_le)
theorem slotN_lt {cs : List Contact} {i j : Nat} (hi : i < cs.length) (he : isEdge cs[i] = true) (h : i < j) : slotN cs i < slotN cs j := by
  have h1 := slotN_succ cs i hi
  rw [if_pos he] at h1
  have h2 := slotN_mono cs (show i + 1 ≤ j from h)
  omega
theorem set1_len (V : Env) (E : List Bool) (i : Nat) : (V.set1 E i).length = E.length := by
  unfold Env.set1
  split
  · split
    · exact List.length_set
    · rfl
  · rfl
theorem foldl_set1_len (V : Env) : ∀ (l : List Nat) (E : List Bool), (l.foldl V.set1 E).length = E.length
  | [], _ => rfl
  | i :: l, E => by rw [List.foldl_cons, foldl_set1_len V l, set1_len]
theorem after_len (V : Env) (l : List Nat) : (V.after l).length = V.e.length := foldl_set1_len V l _
theorem after_snoc (V : Env) (l : List Nat) (i : Nat) : V.after (l ++ [i]) = V.set1 (V.after l) i := by unfold Env.after; rw [List.foldl_append]; rfl
/-- A slot that nobody has written. -/
theorem foldl_set1_get (V : Env) {j : Nat} (hj : ∀ c, V.cs[j]? = some c → isEdge c = true) (hjl : j < V.cs.length) : ∀ (l : List Nat) (E : List Bool), j ∉ l → (l.foldl V.set1 E)[slotN V.cs j]? = E[slotN V.cs j]?
  | [], _, _ => rfl
  | i :: l, E, hn => by
    have hne : j ≠ i := fun e => hn (by simp [e])
    rw [List.foldl_cons, foldl_set1_get V hj hjl l _ (fun h => hn (List.mem_cons_of_mem _ h))]
    unfold Env.set1
    split
    · rename_i c hc
      split
      · rename_i he
        obtain ⟨hil, hci⟩ := List.getElem?_eq_some_iff.1 hc
        refine List.getElem?_set_ne ?_
        have hje := hj _ (List.getElem?_eq_getElem hjl)
        rcases Nat.lt_or_gt_of_ne hne with h | h
        · have := slotN_lt hjl hje h; omega
        · have := slotN_lt hil (by rw [hci]; exact he) h; omega
      · rfl
    · rfl
theorem set1_comm (V : Env) (E : List Bool) (i j : Nat) : V.set1 (V.set1 E i) j = V.set1 (V.set1 E j) i := by
  rcases Nat.lt_trichotomy i j with h | h | h
  · unfold Env.set1
    cases hi : V.cs[i]? with
    | none => rfl
    | some c =>
      cases hj : V.cs[j]? with
      | none => rfl
      | some d =>
        by_cases h1 : isEdge c = true
        · by_cases h2 : isEdge d = true
          · obtain ⟨hil, hci⟩ := List.getElem?_eq_some_iff.1 hi
            have := slotN_lt hil (by rw [hci]; exact h1) h
            simp only [if_pos h1, if_pos h2]
            exact List.set_comm _ _ (by omega)
          · simp [h1, h2]
        · by_cases h2 : isEdge d = true <;> simp [h1, h2]
  · subst h; rfl
  · unfold Env.set1
    cases hi : V.cs[i]? with
    | none => rfl
    | some c =>
      cases hj : V.cs[j]? with
      | none => rfl
      | some d =>
        by_cases h1 : isEdge c = true
        · by_cases h2 : isEdge d = true
          · obtain ⟨hjl, hcj⟩ := List.getElem?_eq_some_iff.1 hj
            have := slotN_lt hjl (by rw [hcj]; exact h2) h
            simp only [if_pos h1, if_pos h2]
            exact List.set_comm _ _ (by omega)
          · simp [h1, h2]
        · by_cases h2 : isEdge d = true <;> simp [h1, h2]
theorem after_perm (V : Env) {l r : List Nat} (h : l.Perm r) : V.after l = V.after r := by
  unfold Env.after
  exact h.foldl_eq' (fun x _ y _ z => set1_comm V z x y) V.e
/-! ### The code computes the tree -/
theorem exec_load {V : Env} {i : Nat} {dn : List Nat} {s : MS} (hok : V.ok) (hi : i < V.cs.length) (hn : i ∉ dn) (hE : s.E = V.after dn) : V.run (loadI V.cs i) s = some ⟨V.on i, s.stk, V.after (dn ++ [i])⟩ := by
  have hc : V.cs[i]? = some V.cs[i] := List.getElem?_eq_getElem hi
  obtain ⟨k0, k3, hr, hs⟩ := hok i hi _ hc
  have hbit : V.bit i = (V.rd V.cs[i].sp V.cs[i].n).1 := by unfold Env.bit; rw [hc]
  have hon : V.on i = onOf V.cs[i].kind (V.bit i) (V.e.getD (slotN V.cs i) false) := by unfold Env.on; rw [hc]
  rw [after_snoc]
  have hset : V.set1 (V.after dn) i = if isEdge V.cs[i] then (V.after dn).set (slotN V.cs i) (V.bit i) else V.after dn := by unfold Env.set1; rw [hc]
  rw [hset, hon]
  unfold loadI
  rw [hc]
  simp only [run_one]
  unfold Bits.exec
  by_cases h2 : V.cs[i].kind < 2
  · have he : isEdge V.cs[i] = false := by unfold isEdge; rw [decide_eq_false]; omega
    simp only [if_pos h2, he]
    rw [if_pos (by omega), if_pos hr]
    simp only [Bool.false_eq_true, if_false, hE]
    congr 2
    rw [← hbit]
    unfold logicA logicV onOf
    rw [if_pos h2]
    rcases (show V.cs[i].kind = 0 ∨ V.cs[i].kind = 1 by omega) with h | h <;> rw [h] <;> cases V.bit i <;> rfl
  · have he : isEdge V.cs[i] = true := by unfold isEdge; rw [decide_eq_true]; omega
    have hsl := hs he
    have hlen := after_len V dn
    simp only [if_neg h2, he, if_true]
    rw [if_neg (by omega), if_pos (by omega), if_pos ⟨hr, by omega, by rw [hE, hlen]; omega⟩]
    simp only [Int.toNat_natCast, hE]
    have hget : (V.after dn).getD (slotN V.cs i) false = V.e.getD (slotN V.cs i) false := by
      have := foldl_set1_get V (j := i) (fun c hc' => by rw [hc] at hc'; injection hc' with hc'; rw [← hc']; exact he) hi dn V.e hn
      unfold Env.after
      rw [List.getD_eq_getElem?_getD, List.getD_eq_getElem?_getD, this]
    rw [hget, ← hbit]
    congr 2
    unfold onOf
    rw [if_neg h2]
    congr 2
    rcases (show V.cs[i].kind = 2 ∨ V.cs[i].kind = 3 by omega) with h | h <;> rw [h] <;> rfl
def combT (k : Int) (a : Bool) (v : Bool) : Bool := if k = 1 then a && v else a || v
def foldT (on : Nat → Bool) (k : Int) (a : Bool) : List PT → Bool
  | [] => a
  | x :: r => foldT on k (combT k a (evalT on x)) r
theorem foldT_eq (on : Nat → Bool) {k : Int} (hk : k = 1 ∨ k = 2) : ∀ (r : List PT) (a : Bool), foldT on k a r = if k = 1 then a && allT on r else a || anyT on r
  | [], a => by
    rw [foldT, allT, anyT]
    split <;> simp
  | x :: r, a => by
    rw [foldT, foldT_eq on hk r, allT, anyT]
    unfold combT
    split
    · rw [Bool.and_assoc]
    · rw [Bool.or_assoc]
def natsL (l : List Int) : List Nat := l.map Int.toNat
theorem nat_notin {n : Nat} {a b : List Int} (h : (a ++ b).Nodup) (ha : InR n a) (hb : InR n b) : ∀ i, i ∈ b → i.toNat ∉ natsL a := fun i hi hm => by
  obtain ⟨j, hj, e⟩ := List.mem_map.1 hm
  have := ha j hj
  have := hb i hi
  have : j = i := by omega
  subst this
  exact (List.nodup_append.1 h).2.2 _ hj _ hi rfl
mutual
theorem lay_run {V : Env} (hok : V.ok) : ∀ (t : PT) (dn : List Nat) (s : MS), t.ok → InR V.cs.length t.leaves → t.leaves.Nodup → (∀ i, i ∈ t.leaves → i.toNat ∉ dn) → s.E = V.after dn → s.stk.length + t.leaves.length ≤ 64 →
    V.run (layC V.cs t) s = some ⟨evalT V.on t, s.stk, V.after (dn ++ natsL t.leaves)⟩
  | .mk k n kids, dn, s, ho, hr, hn, hd, hE, hb => by
    rw [layC, evalT]
    by_cases h0 : k = 0
    · have hl : (PT.mk k n kids).leaves = [n] := leaves_leaf _ h0
      rw [hl] at hr hd ⊢
      have := hr n (by simp)
      rw [if_pos h0, if_neg (by omega), if_neg (by omega)]
      have hlt : n.toNat < V.cs.length := by omega
      exact exec_load hok hlt (hd n (by simp)) hE
    · rcases ok_cases ho with h' | ⟨k1, _, k3, k4, k5⟩
      · exact absurd h'.1 h0
      have k1 : k = 1 ∨ k = 2 := k1
      have hl : (PT.mk k n kids).leaves = leavesL kids := leaves_kids _ k1
      rw [hl] at hr hd hn hb ⊢
      rw [if_neg h0]
      have k3 : 2 ≤ kids.length := k3
      rw [lay_runH hok kids k dn s k1 (okL_iff.2 k5) (by omega) hr hn hd hE hb]
      rcases k1 with rfl | rfl
      · simp
      · simp
theorem lay_runH {V : Env} (hok : V.ok) : ∀ (l : List PT) (k : Int) (dn : List Nat) (s : MS), (k = 1 ∨ k = 2) → okL l → 0 < l.length → InR V.cs.length (leavesL l) → (leavesL l).Nodup → (∀ i, i ∈ leavesL l → i.toNat ∉ dn) → s.E = V.after dn → s.stk.length + (leavesL l).length ≤ 64 →
    V.run (layH V.cs k l) s = some ⟨if k = 1 then allT V.on l else anyT V.on l, s.stk, V.after (dn ++ natsL (leavesL l))⟩
  | [], _, _, _, _, _, h, _, _, _, _, _ => by simp at h
  | x :: r, k, dn, s, hk, ho, _, hr, hn, hd, hE, hb => by
    rw [okL] at ho
    rw [leavesL] at hr hn hd hb ⊢
    have hn' := List.nodup_append.1 hn
    have hr1 : InR V.cs.length x.leaves := fun i hi => hr i (List.mem_append_left _ hi)
    have hr2 : InR V.cs.length (leavesL r) := fun i hi => hr i (List.mem_append_right _ hi)
    simp only [List.length_append] at hb
    have hx := lay_run hok x dn s ho.1 hr1 hn'.1 (fun i hi => hd i (List.mem_append_left _ hi)) hE (by omega)
    have hpos := ok_leaves x ho.1
    rw [layH, runs_append, hx, Option.bind_some]
    rw [lay_runK hok r k (dn ++ natsL x.leaves) ⟨evalT V.on x, s.stk, V.after (dn ++ natsL x.leaves)⟩ hk ho.2 hr2 hn'.2.1 (fun i hi hm => ?_) rfl (by simp only; omega)]
    · rw [foldT_eq _ hk, allT, anyT]
      simp [natsL]
    · rcases List.mem_append.1 hm with hm | hm
      · exact hd i (List.mem_append_right _ hi) hm
      · exact nat_notin hn hr1 hr2 i hi hm
theorem lay_runK {V : Env} (hok : V.ok) : ∀ (l : List PT) (k : Int) (dn : List Nat) (s : MS), (k = 1 ∨ k = 2) → okL l → InR V.cs.length (leavesL l) → (leavesL l).Nodup → (∀ i, i ∈ leavesL l → i.toNat ∉ dn) → s.E = V.after dn → s.stk.length + 1 + (leavesL l).length ≤ 64 →
    V.run (layK V.cs k l) s = some ⟨foldT V.on k s.acc l, s.stk, V.after (dn ++ natsL (leavesL l))⟩
  | [], k, dn, s, _, _, _, _, _, hE, _ => by
    rw [layK, Bits.run, foldT, leavesL, natsL, List.map_nil, List.append_nil, ← hE]
  | x :: r, k, dn, s, hk, ho, hr, hn, hd, hE, hb => by
    rw [okL] at ho
    rw [leavesL] at hr hn hd hb ⊢
    have hn' := List.nodup_append.1 hn
    have hr1 : InR V.cs.length x.leaves := fun i hi => hr i (List.mem_append_left _ hi)
    have hr2 : InR V.cs.length (leavesL r) := fun i hi => hr i (List.mem_append_right _ hi)
    simp only [List.length_append] at hb
    have hone : V.run (if x.kind = 0 ∧ edgeAtN V.cs x.n.toNat = false then joinI V.cs k x.n.toNat else ⟨8, 0, 0, 0⟩ :: (layC V.cs x ++ [⟨8 + k, 0, 0, 0⟩])) s = some ⟨combT k s.acc (evalT V.on x), s.stk, V.after (dn ++ natsL x.leaves)⟩ := by
      split
      · rename_i hc
        obtain ⟨h0, hne⟩ := hc
        have hl := leaves_leaf x h0
        rw [hl] at hr1 hd ⊢
        have hx := hr1 x.n (by simp)
        have hlt : x.n.toNat < V.cs.length := by omega
        have hci : V.cs[x.n.toNat]? = some V.cs[x.n.toNat] := List.getElem?_eq_getElem hlt
        obtain ⟨q0, q3, hrd, _⟩ := hok _ hlt _ hci
        have he : isEdge V.cs[x.n.toNat] = false := by unfold edgeAtN at hne; rw [hci] at hne; exact hne
        have hk2 : V.cs[x.n.toNat].kind < 2 := by
          unfold isEdge at he
          have := of_decide_eq_false he
          omega
        have hset : V.after (dn ++ natsL [x.n]) = V.after dn := by
          show V.after (dn ++ [x.n.toNat]) = _
          rw [after_snoc]
          unfold Env.set1
          rw [hci]
          simp [he]
        have hev : evalT V.on x = V.on x.n.toNat := by
          obtain ⟨a, b, c⟩ := x
          have h0 : a = 0 := h0
          rw [evalT, if_neg (by omega), if_neg (by omega), PT.n]
        rw [hset, hev]
        unfold joinI
        rw [hci]
        simp only [run_one]
        unfold Bits.exec
        simp only []
        rw [if_pos (by omega), if_pos hrd, ← hE]
        congr 2
        have hon : V.on x.n.toNat = onOf V.cs[x.n.toNat].kind (V.rd V.cs[x.n.toNat].sp V.cs[x.n.toNat].n).1 (V.e.getD (slotN V.cs x.n.toNat) false) := by
          unfold Env.on Env.bit; rw [hci]
        rw [hon]
        unfold onOf logicA logicV combT
        rw [if_pos hk2]
        rcases hk with rfl | rfl <;> rcases (show V.cs[x.n.toNat].kind = 0 ∨ V.cs[x.n.toNat].kind = 1 by omega) with h | h <;> rw [h] <;> cases (V.rd V.cs[x.n.toNat].sp V.cs[x.n.toNat].n).1 <;> cases s.acc <;> rfl
      · have hpush : V.exec ⟨8, 0, 0, 0⟩ s = some ⟨s.acc, s.stk ++ [s.acc], s.E⟩ := by
          unfold Bits.exec
          simp only []
          rw [if_neg (by omega), if_neg (by omega), if_pos trivial, if_pos (by have := ok_leaves x ho.1; omega)]
        rw [Bits.run, hpush, Option.bind_some, runs_append, lay_run hok x dn ⟨s.acc, s.stk ++ [s.acc], s.E⟩ ho.1 hr1 hn'.1 (fun i hi => hd i (List.mem_append_left _ hi)) hE (by simp only [List.length_append, List.length_cons, List.length_nil]; omega), Option.bind_some, run_one]
        unfold Bits.exec
        simp only []
        rw [if_neg (by omega), if_neg (by omega), if_neg (by omega), if_pos (by omega), if_pos (by simp)]
        simp only [List.length_append, List.length_cons, List.length_nil, Nat.zero_add, Nat.add_sub_cancel, List.take_left]
        have hg : (s.stk ++ [s.acc]).getD s.stk.length false = s.acc := by simp [List.getD_eq_getElem?_getD]
        rw [hg]
        unfold combT
        rcases hk with rfl | rfl
        · simp
        · simp
    rw [layK, runs_append, hone, Option.bind_some]
    rw [lay_runK hok r k (dn ++ natsL x.leaves) ⟨combT k s.acc (evalT V.on x), s.stk, V.after (dn ++ natsL x.leaves)⟩ hk ho.2 hr2 hn'.2.1 (fun i hi hm => ?_) rfl (by simp only; omega)]
    · rw [foldT]
      simp [natsL]
    · rcases List.mem_append.1 hm with hm | hm
      · exact hd i (List.mem_append_right _ hi) hm
      · exact nat_notin hn hr1 hr2 i hi hm
end
/-! ### Its length -/
theorem loadI_len {cs : List Contact} {i : Nat} (h : i < cs.length) : (loadI cs i).length = 1 := by unfold loadI; rw [List.getElem?_eq_getElem h]; rfl
theorem joinI_len {cs : List Contact} {k : Int} {i : Nat} (h : i < cs.length) : (joinI cs k i).length = 1 := by unfold joinI; rw [List.getElem?_eq_getElem h]; rfl
mutual
theorem layC_len {cs : List Contact} : ∀ (t : PT), t.ok → InR cs.length t.leaves → t.leaves.length ≤ (layC cs t).length ∧ (layC cs t).length + 2 ≤ 3 * t.leaves.length
  | .mk k n kids, ho, hr => by
    rw [layC]
    by_cases h0 : k = 0
    · have hl : (PT.mk k n kids).leaves = [n] := leaves_leaf _ h0
      rw [hl] at hr ⊢
      have := hr n (by simp)
      rw [if_pos h0, loadI_len (by omega)]
      simp
    · rcases ok_cases ho with h' | ⟨k1, _, k3, k4, k5⟩
      · exact absurd h'.1 h0
      have hl : (PT.mk k n kids).leaves = leavesL kids := leaves_kids _ k1
      rw [hl] at hr ⊢
      rw [if_neg h0]
      have k3 : 2 ≤ kids.length := k3
      exact layH_len kids k (okL_iff.2 k5) (by omega) hr
theorem layH_len {cs : List Contact} : ∀ (l : List PT) (k : Int), okL l → 0 < l.length → InR cs.length (leavesL l) → (leavesL l).length ≤ (layH cs k l).length ∧ (layH cs k l).length + 2 ≤ 3 * (leavesL l).length
  | [], _, _, h, _ => by simp at h
  | x :: r, k, ho, _, hr => by
    rw [okL] at ho
    rw [leavesL] at hr ⊢
    have h1 := layC_len x ho.1 (fun i hi => hr i (List.mem_append_left _ hi))
    have h2 := layK_len r k ho.2 (fun i hi => hr i (List.mem_append_right _ hi))
    rw [layH]
    simp only [List.length_append]
    omega
theorem layK_len {cs : List Contact} : ∀ (l : List PT) (k : Int), okL l → InR cs.length (leavesL l) → (leavesL l).length ≤ (layK cs k l).length ∧ (layK cs k l).length ≤ 3 * (leavesL l).length
  | [], k, _, _ => by simp [layK, leavesL]
  | x :: r, k, ho, hr => by
    rw [okL] at ho
    rw [leavesL] at hr ⊢
    have h1 := layC_len x ho.1 (fun i hi => hr i (List.mem_append_left _ hi))
    have h2 := layK_len r k ho.2 (fun i hi => hr i (List.mem_append_right _ hi))
    rw [layK]
    simp only [List.length_append]
    split
    · rename_i hc
      have hl := leaves_leaf x hc.1
      rw [hl] at h1 hr ⊢
      have := hr x.n (by simp)
      rw [joinI_len (by omega)]
      simp
      omega
    · simp only [List.length_cons, List.length_append, List.length_nil]
      omega
end
end Go.Proofs.YtolggjmgfijjfaaGreatDoor.Sep

/- More rules: pointers, bools, tables, function values with a receiver, instructions that are compared. Nothing here speaks of a program. -/
namespace Go.Proofs.YtolggjmgfijjfaaGreatDoor.Sep
open Go Go.Proofs

def kIns : Kd Ins := flat 4 (fun x => [.int .i64 x.op, .int .i64 x.sp, .int .i64 x.n, .int .i64 x.arg]) (fun _ => rfl) (fun _ => rfl)
theorem vIns (x : Ins) : View (Z := Unit) kIns x (fun _ => [.int .i64 x.op, .int .i64 x.sp, .int .i64 x.n, .int .i64 x.arg]) (fun _ => []) := vFlat x
section
variable {P : Program} {G : Ctx} {n : Nat} {D : List Deferred} {L : List (Nat × Value)} {Γ : List Fact}
variable {d : Option Nat} {ty : TypeId} {ps : String} {af : Array Go.Edge} {gd : Option (Nat × Bool)}
theorem pointee_of {t e : TypeId} (ht : P.underlying t = some (.pointer e)) : P.underlying t = some (.pointer (P.pointee t)) := by
  unfold Program.pointee
  rw [ht]
/-- Field f of struct type s lies at cell o, and is one cell. -/
def TF1 (P : Program) (s : TypeId) (f o : Nat) : Prop := ∃ fs fd, P.underlying s = some (.struct fs) ∧ fs[f]? = some fd ∧ fd.offset = o ∧ TA P fd.type false
theorem Qt.nilCheck {x : Operand} {p : Addr} (hx : ev L x = some (.pointer (some p))) : Qt P G n D ⟨d, .nilCheck x, ty, ps, af, gd⟩ L Γ (.pointer (some p)) := fun a w S hf hh => by
  simp [execOp, hf.eval hx]
theorem Qt.ptrNil {x : Operand} {t u e : TypeId} {p : Option Addr} (ht : P.underlying t = some (.pointer e)) (hx : ev L x = some (.pointer p)) : Qt P G n D ⟨d, .binOp .eql t x (.const (.pointer none)) u, ty, ps, af, gd⟩ L Γ (.bool p.isNone) := fun a w S hf hh => by
  have h : ∀ k : Nat, (Op.equalIn (k + 1) t (.pointer p) (.pointer none)).run P w = .ok p.isNone w := fun k => run_equalIn_pointer_nil w k t p (pointee_of ht)
  have hb : (binOp .eql t (.pointer p) (.pointer none)).run P w = .ok (.bool p.isNone) w := by
    simp only [binOp]
    simp [Op.equal, Op.maxDepth, h 9999]
  have he : (eqGuard .eql t x (.const (.pointer none)) (.pointer p) (.pointer none)).run P w = .ok () w := by simp [eqGuard]
  have hc : a.eval (.const (.pointer none)) = .pointer none := rfl
  simp only [execOp, hf.eval hx, hc, Sem.run_bind, he, hb, Result.andThen_ok, Sem.run_pure]
theorem Qt.ptrNotNil {x : Operand} {t u e : TypeId} {p : Option Addr} (ht : P.underlying t = some (.pointer e)) (hx : ev L x = some (.pointer p)) : Qt P G n D ⟨d, .binOp .neq t x (.const (.pointer none)) u, ty, ps, af, gd⟩ L Γ (.bool (!p.isNone)) := fun a w S hf hh => by
  have h : ∀ k : Nat, (Op.equalIn (k + 1) t (.pointer p) (.pointer none)).run P w = .ok p.isNone w := fun k => run_equalIn_pointer_nil w k t p (pointee_of ht)
  have hb : (binOp .neq t (.pointer p) (.pointer none)).run P w = .ok (.bool (!p.isNone)) w := by
    simp only [binOp]
    simp [Op.equal, Op.maxDepth, h 9999]
  have he : (eqGuard .neq t x (.const (.pointer none)) (.pointer p) (.pointer none)).run P w = .ok () w := by simp [eqGuard]
  have hc : a.eval (.const (.pointer none)) = .pointer none := rfl
  simp only [execOp, hf.eval hx, hc, Sem.run_bind, he, hb, Result.andThen_ok, Sem.run_pure]
theorem Qt.beql {x y : Operand} {t u : TypeId} {a b : Bool} (ht : P.underlying t = some .bool) (hx : ev L x = some (.bool a)) (hy : ev L y = some (.bool b)) : Qt P G n D ⟨d, .binOp .eql t x y u, ty, ps, af, gd⟩ L Γ (.bool (a == b)) := fun act w S hf hh => by
  have h := run_equalIn_bool (P := P) w 9999 t a b ht
  have hb : (binOp .eql t (.bool a) (.bool b)).run P w = .ok (.bool (a == b)) w := by
    simp only [binOp]
    simp [Op.equal, Op.maxDepth, h]
  have he : (eqGuard .eql t x y (.bool a) (.bool b)).run P w = .ok () w := by simp [eqGuard]
  simp only [execOp, hf.eval hx, hf.eval hy, Sem.run_bind, he, hb, Result.andThen_ok, Sem.run_pure]
theorem Qt.bneq {x y : Operand} {t u : TypeId} {a b : Bool} (ht : P.underlying t = some .bool) (hx : ev L x = some (.bool a)) (hy : ev L y = some (.bool b)) : Qt P G n D ⟨d, .binOp .neq t x y u, ty, ps, af, gd⟩ L Γ (.bool (a != b)) := fun act w S hf hh => by
  have h := run_equalIn_bool (P := P) w 9999 t a b ht
  have hb : (binOp .neq t (.bool a) (.bool b)).run P w = .ok (.bool (a != b)) w := by
    simp only [binOp]
    simp [Op.equal, Op.maxDepth, h, bne]
  have he : (eqGuard .neq t x y (.bool a) (.bool b)).run P w = .ok () w := by simp [eqGuard]
  simp only [execOp, hf.eval hx, hf.eval hy, Sem.run_bind, he, hb, Result.andThen_ok, Sem.run_pure]
/-- A table of numbers is read at a place that is not known in figures. -/
theorem Qt.loadTab {x : Operand} {t : TypeId} {p : Addr} {tab : List Int} (i j : Nat) (hF : Γ[i]? = some (cellsAt p (tab.map (Value.int .i64)))) (hj : j < tab.length) (ht : TA P t false) (hx : ev L x = some (.pointer (some (p.add j)))) : Qt P G n D ⟨d, .load t x, ty, ps, af, gd⟩ L Γ (.int .i64 (tab.getD j 0)) :=
  Qt.loadC i hF ht hx (by rw [getL_eq]; simp [List.getD_eq_getElem?_getD, hj])
theorem Qt.makeFuncR {fn : Fn} {fs : List Operand} {vs : List Value} (hf' : evs L fs = some vs) : Qt P G n D ⟨d, .makeFunc fn fs.toArray #[], ty, ps, af, gd⟩ L Γ (.func fn vs.toArray #[]) := fun a w S hf hh => by
  simp [execOp, Instr.makeFunc, hf.evals hf']
theorem Cl.valR {f : FuncId} {x : Operand} {xs : List Operand} {at_ : Array TypeId} {vs fs : List Value} (hc : Callable P f) (hv : ev L x = some (.func (.func f) fs.toArray #[])) (hx : evs L xs = some vs) : Cl P n D ⟨d, .call ⟨.value x, xs.toArray, at_⟩, ty, ps, af, gd⟩ L f (fs ++ vs).toArray := fun a w hf => by
  simp [execOp, resolve, hf.eval hv, Deferred.ofValue, invoke, hf.evals hx, run_callFunc hc]
theorem WX.retTCT {fn : Func} {R : Value → List Fact → Prop} {t u q : Tmp} {ty : TypeId} {b : Nat} {tb : TypeId} {cs vs : List Value} {z x y : Value} {sz by_ : Nat} {Γ' Γr : List Fact} (i : Nat) (s : Sel Γ Γ' Γr) (hr : fn.results = #[.tmp u, .cell t ty, .tmp q]) (hp : look L t = some (.pointer (some ⟨b, 0, none⟩))) (hx : look L u = some x) (hy : look L q = some y)
    (hF : Γ[i]? = some (blk b tb cs)) (ht : TA P ty true) (hi : TI P ty z sz by_) (hv : cutL cs 0 sz = some vs) (h : R (.tuple [x, .agg vs.toArray, y].toArray) Γ') : WX (FQ P fn G R) G n [] .ret L Γ := by
  intro a w S hf hh
  have hl := run_loadVar_blk (hh.facts (blk b tb cs) (List.mem_of_getElem? hF)) ht hi hv
  refine bodyPost_ret (v := .tuple [x, .agg vs.toArray, y].toArray) ?_ hf.defers ⟨_, Γ', S, rfl, h, hh.sub_sel s⟩
  simp [results, hr, Array.getD_eq_getD_getElem?, hf.slots t _ hp, asAddr, hl, hf.slots u _ hx, hf.slots q _ hy]
end
/-- What a row of one's own holds, read by one who takes it for settled. -/
theorem row_rd {α : Type} {e : Kd α} {t : TypeId} {A : Option Addr} {c : Nat} {xs : List α} {S : Nat → Prop} {w : World} (hrow : (row e t A c xs).ok S w) : (rd e A c xs).ok (fun k => S k ∨ (row e t A c xs).own k) w := by
  have hb := row_bounds hrow
  obtain ⟨l, ho, hr⟩ := hrow
  refine ⟨hb.1, hb.2, fun j hj => ?_⟩
  rcases ho.2 with ⟨_, h0⟩ | ⟨g, cap, cur, h1, _, h3, _⟩
  · omega
  · injection h1 with hA _ _
    refine ⟨_, hA, .inr ⟨_, hA, rfl⟩, _, e.stable _ _ _ _ _ _ (hr.2 j hj) (fun k h => .inl h) (fun _ _ => rfl), fun i u hu => ?_⟩
    rw [List.getElem?_take] at hu
    split at hu
    · rw [List.getElem?_drop] at hu
      exact ho.cells (g := g) (by rw [hA]; rfl) _ _ hu
    · cases hu
/-- A closed row is lent to one who reads it and makes things of his own. -/
theorem Spec.borrowRow {α : Type} {μ : Prop} {P : Program} {f : FuncId} {args : Array Value} {e : Kd α} {tb : TypeId} {A : Option Addr} {c : Nat} {xs : List α} {U : List Fact} {R : Value → List Fact → Prop} (hU : ∀ F, F ∈ U → ∀ k, ¬ F.own k) (hR : ∀ v Δ, R v Δ → ∀ F, F ∈ Δ → Free F)
    (h : Spec μ P f args (rd e A c xs :: U) R) : Spec μ P f args (row e tb A c xs :: U) fun v Δ => ∃ Δ', R v Δ' ∧ Δ = row e tb A c xs :: Δ' := by
  intro w S hs
  have hrow : (row e tb A c xs).ok S w := hs.facts _ List.mem_cons_self
  let O : Nat → Prop := (row e tb A c xs).own
  have hO : ∀ k, O k → k < w.heap.size := fun k hk => (row e tb A c xs).lt S w k hrow hk
  have hs1 : Start (rd e A c xs :: U) (fun k => S k ∨ O k) w := by
    refine ⟨fun F hF => ?_, ?_, fun F hF k hk => ?_, fun k hk => ?_, fun _ h => h, fun _ h => .inl h, fun _ _ _ => rfl, Nat.le_refl _, rfl, rfl, rfl, fun _ => Nat.le_refl _⟩
    · rcases List.mem_cons.1 hF with rfl | hF
      · exact row_rd hrow
      · exact F.stable S _ w w (hs.facts F (List.mem_cons_of_mem _ hF)) (fun k h => .inl h) (fun _ _ => rfl)
    · exact List.pairwise_cons.2 ⟨fun F hF k h1 => h1.elim, (List.pairwise_cons.1 hs.sep).2⟩
    · rcases List.mem_cons.1 hF with rfl | hF
      · exact hk.elim
      · exact (hU F hF k hk).elim
    · rcases hk with hk | hk
      · exact hs.sub k hk
      · exact hO k hk
  refine (h w _ hs1).mono fun e' w' ⟨v, Γ', S', he, hRv, d⟩ => ⟨v, _, S, he, ⟨Γ', hRv, rfl⟩, ?_⟩
  have hnone : ∀ k, ¬ Own (rd e A c xs :: U) k := fun k ⟨F, hF, hko⟩ => by
    rcases List.mem_cons.1 hF with rfl | hF
    · exact hko.elim
    · exact hU F hF k hko
  have hkept : ∀ k, (S k ∨ O k) → w'.heap[k]? = w.heap[k]? := fun k hk => d.kept k (hs1.sub k hk) (hnone k)
  refine ⟨fun F hF => ?_, ?_, fun F hF k hk => ?_, fun k hk => Nat.lt_of_lt_of_le (hs.sub k hk) d.size, fun _ h => h, fun _ h => .inl h, fun k hk ho => d.kept k hk (hnone k), d.size, d.os, d.tape, d.output, d.drawn⟩
  · rcases List.mem_cons.1 hF with rfl | hF
    · exact (row e tb A c xs).stable S S w w' hrow (fun _ h => h) fun k hk => hkept k (hk.elim .inr .inl)
    · exact hR v Γ' hRv F hF _ _ _ (d.facts F hF)
  · refine List.pairwise_cons.2 ⟨fun F hF k h1 h2 => ?_, d.sep⟩
    exact (d.fresh F hF k h2).1 (d.grow k (.inr h1))
  · rcases List.mem_cons.1 hF with rfl | hF
    · exact ⟨(hs.fresh _ List.mem_cons_self k hk).1, .inl (Own.head (F := row e tb A c xs) hk)⟩
    · refine ⟨fun h1 => (d.fresh F hF k hk).1 (d.grow k (.inl h1)), ?_⟩
      rcases (d.fresh F hF k hk).2 with h3 | h3
      · exact absurd h3 (hnone k)
      · exact .inr h3
theorem free_row {α : Type} {n : Nat} {f : α → List Value} {hl : ∀ x, (f x).length = n} {h1 : ∀ x, ones (f x) = true} {t : TypeId} {A : Option Addr} {c : Nat} {xs : List α} : Free (row (flat n f hl h1) t A c xs) := fun S S' w ⟨l, ho, hr⟩ => ⟨l, ho, hr.1, fun j hj => hr.2 j hj⟩
section
variable {P : Program} {G : Ctx} {n : Nat} {D : List Deferred} {L : List (Nat × Value)} {Γ : List Fact}
variable {d : Option Nat} {ty : TypeId} {ps : String} {af : Array Go.Edge} {gd : Option (Nat × Bool)}
theorem Qt.field {s : TypeId} {x : Operand} {f o : Nat} {cs : List Value} {v : Value} (ht : TF1 P s f o) (hx : ev L x = some (.agg cs.toArray)) (hv : getL cs o = some v) : Qt P G n D ⟨d, .field s x f, ty, ps, af, gd⟩ L Γ v := fun a w S hf hh => by
  obtain ⟨fs, fd, hs, hfd, ho, ha⟩ := ht
  rw [getL_eq] at hv
  simp [execOp, hf.eval hx, Instr.field, run_underlying hs, hfd, ho, ha.run, part, asAgg, hv]
theorem Qt.buildArr {t e : TypeId} {m : Nat} {xs : List (Nat × Operand)} {vs : List (Nat × Value)} {z ze : Value} {zs cs : List Value} {sz by_ se be : Nat} (ht : P.underlying t = some (.array m e)) (he : TI P e ze se be) (hi : TI P t z sz by_) (hz : z.cells.toList = zs) (hx : evp L xs = some vs) (hc : fillL (fun i => some (i * se, se)) zs vs = some cs) :
    Qt P G n D ⟨d, .build t xs.toArray, ty, ps, af, gd⟩ L Γ (.agg cs.toArray) := fun a w S hf hh => by
  have hfill := fillL_eq _ _ _ _ hc
  have hzs : zs.toArray = z.cells := by rw [← hz]
  rw [hzs] at hfill
  have hev := hf.evp hx
  have hrun : (Instr.build t (xs.toArray.map fun p => (p.1, a.eval p.2))).run P w = .ok (.agg cs.toArray) w := by
    simp only [Instr.build, Sem.run_bind, hi.zero, Result.andThen_ok, run_underlying ht, he.size, List.map_toArray, hev, hfill, Sem.run_pure]
  simp only [execOp, Sem.run_bind]
  have e : (Array.map (fun x => match x with | (i, x) => (i, a.eval x)) xs.toArray) = (xs.toArray.map fun p => (p.1, a.eval p.2)) := rfl
  rw [e, hrun]
  rfl
end
end Go.Proofs.YtolggjmgfijjfaaGreatDoor.Sep

/- Small laws on bits that the walks of the machine use. Nothing here speaks of a program. -/
namespace Go.Proofs.YtolggjmgfijjfaaGreatDoor.Sep
open Go Go.Proofs

theorem getB_bad {l : List Bool} {n : Int} (h : ¬ (n ≥ 0 ∧ n < (l.length : Int))) : getB l n = (false, 3) := by unfold getB; rw [if_neg (by omega)]
theorem getB_at {l : List Bool} {j : Nat} (h : j < l.length) : getB l (j : Int) = (l[j], 0) := by
  unfold getB
  rw [if_pos (by omega)]
  simp [List.getD_eq_getElem?_getD, h]
theorem rd_bad (V : Bits) {sp n : Int} (h : sp < 0 ∨ sp ≥ 3) : V.rd sp n = (false, 8) := by unfold Bits.rd; rw [if_neg (by omega)]
theorem rd_0 (inp q m : List Bool) (n : Int) : (Bits.mk inp q m).rd ((0 : Nat) : Int) n = getB inp n := rfl
theorem rd_1 (inp q m : List Bool) (n : Int) : (Bits.mk inp q m).rd ((1 : Nat) : Int) n = getB q n := rfl
theorem rd_2 (inp q m : List Bool) (n : Int) : (Bits.mk inp q m).rd ((2 : Nat) : Int) n = getB m n := rfl
/-- A method of the machine at block bm, as a value. -/
def fnV (bm : Nat) (f : Nat) : Value := .func (.func f) [Value.pointer (some ⟨bm, 0, none⟩)].toArray #[]
theorem exec_inv {V : Bits} {x : Ins} {s s' : MS} (h : V.exec x s = some s') :
    ((0 ≤ x.op ∧ x.op ≤ 5) ∧ (V.rd x.sp x.n).2 = 0 ∧ s' = ⟨logicA x.op s.acc (logicV x.op (V.rd x.sp x.n).1), s.stk, s.E⟩) ∨
    ((x.op = 6 ∨ x.op = 7) ∧ (V.rd x.sp x.n).2 = 0 ∧ (0 ≤ x.arg ∧ x.arg < s.E.length) ∧ s' = ⟨((V.rd x.sp x.n).1 != s.E.getD x.arg.toNat false) && ((V.rd x.sp x.n).1 == decide (x.op = 6)), s.stk, s.E.set x.arg.toNat (V.rd x.sp x.n).1⟩) ∨
    (x.op = 8 ∧ s.stk.length < 64 ∧ s' = ⟨s.acc, s.stk ++ [s.acc], s.E⟩) ∨
    ((x.op = 9 ∨ x.op = 10) ∧ 0 < s.stk.length ∧ s' = ⟨if x.op = 9 then s.stk.getD (s.stk.length - 1) false && s.acc else s.stk.getD (s.stk.length - 1) false || s.acc, s.stk.take (s.stk.length - 1), s.E⟩) := by
  unfold Bits.exec at h
  split at h
  · rename_i h1
    split at h
    · rename_i h2
      injection h with h
      exact .inl ⟨h1, h2, h.symm⟩
    · cases h
  · split at h
    · rename_i h1
      split at h
      · rename_i h2
        injection h with h
        exact .inr (.inl ⟨h1, h2.1, h2.2, h.symm⟩)
      · cases h
    · split at h
      · rename_i h1
        split at h
        · rename_i h2
          injection h with h
          exact .inr (.inr (.inl ⟨h1, h2, h.symm⟩))
        · cases h
      · split at h
        · rename_i h1
          split at h
          · rename_i h2
            injection h with h
            exact .inr (.inr (.inr ⟨h1, h2, h.symm⟩))
          · cases h
        · cases h
section
variable {a b c d e f g : Nat} {k : Int}
abbrev dispT (a b c d e f g : Nat) : List (Int × Nat) := [(0, a), (1, a), (2, a), (3, a), (4, a), (5, a), (6, b), (7, b), (8, c), (9, d), (10, d), (11, e), (12, e), (13, e), (14, e), (15, f), (16, g)]
theorem disp_logic (h : 0 ≤ k ∧ k ≤ 5) : mlook (dispT a b c d e f g) k = some a := by
  rcases (show k = 0 ∨ k = 1 ∨ k = 2 ∨ k = 3 ∨ k = 4 ∨ k = 5 by omega) with rfl | rfl | rfl | rfl | rfl | rfl <;> rfl
theorem disp_edge (h : k = 6 ∨ k = 7) : mlook (dispT a b c d e f g) k = some b := by
  rcases h with rfl | rfl <;> rfl
theorem disp_push (h : k = 8) : mlook (dispT a b c d e f g) k = some c := by
  rcases h with rfl; rfl
theorem disp_pop (h : k = 9 ∨ k = 10) : mlook (dispT a b c d e f g) k = some d := by
  rcases h with rfl | rfl <;> rfl
theorem disp_end (h : k = 16) : mlook (dispT a b c d e f g) k = some g := by
  rcases h with rfl; rfl
theorem disp_val {m : List (Int × Nat)} {bm : Nat} {z : Value} (h : mlook m k = some a) : Value.tuple [((mlook m k).map (fnV bm)).getD z, .bool (mlook m k).isSome].toArray = .tuple [fnV bm a, .bool true].toArray := by rw [h]; rfl
end
end Go.Proofs.YtolggjmgfijjfaaGreatDoor.Sep

/- The code of a tree, as its maker lays it: tables, slots, steps. Nothing here speaks of a program. -/
namespace Go.Proofs.YtolggjmgfijjfaaGreatDoor.Sep
open Go Go.Proofs

section
variable {P : Program} {G : Ctx} {n : Nat} {D : List Deferred} {L : List (Nat × Value)} {Γ : List Fact}
variable {d : Option Nat} {ty : TypeId} {ps : String} {af : Array Go.Edge} {gd : Option (Nat × Bool)}
theorem Qt.loadTab1 {x : Operand} {t : TypeId} {p : Addr} {tab : List Int} (i j : Nat) (hF : Γ[i]? = some (cellsAt p (tab.map (Value.int .i64)))) (hj : j < tab.length) (ht : TA P t false) (hx : ev L x = some (.pointer (some (p.add (j * 1))))) : Qt P G n D ⟨d, .load t x, ty, ps, af, gd⟩ L Γ (.int .i64 (tab.getD j 0)) :=
  Qt.loadTab i j hF hj ht (by rw [hx, Nat.mul_one])
theorem Qt.loadTab2 {x : Operand} {t : TypeId} {p : Addr} {tab : List Int} (i j1 j2 m : Nat) (hF : Γ[i]? = some (cellsAt p (tab.map (Value.int .i64)))) (hj : j1 * m + j2 < tab.length) (ht : TA P t false) (hx : ev L x = some (.pointer (some ((p.add (j1 * m)).add (j2 * 1))))) : Qt P G n D ⟨d, .load t x, ty, ps, af, gd⟩ L Γ (.int .i64 (tab.getD (j1 * m + j2) 0)) :=
  Qt.loadTab i (j1 * m + j2) hF hj ht (by rw [hx, Addr.add_add, Nat.mul_one])
end
def loadsT : List Int := [0, 1, 6, 7]
def joinsT : List Int := [0, 0, 2, 3, 4, 5]
def popsT : List Int := [0, 9, 10]
def slotI (cs : List Contact) (i : Nat) : Int := if edgeAtN cs i = true then (slotN cs i : Int) else 0
def slotsP (cs : List Contact) (k : Nat) : List Int := (List.range cs.length).map fun i => if i < k then slotI cs i else 0
def slotsL (cs : List Contact) : List Int := (List.range cs.length).map (slotI cs)
theorem slotsL_len (cs : List Contact) : (slotsL cs).length = cs.length := by simp [slotsL]
theorem slotsP_len (cs : List Contact) (k : Nat) : (slotsP cs k).length = cs.length := by simp [slotsP]
theorem slotsL_get (cs : List Contact) (j : Nat) (h : j < (slotsL cs).length) : (slotsL cs)[j] = slotI cs j := by simp [slotsL]
theorem slotsP_zero (cs : List Contact) : List.replicate cs.length 0 = slotsP cs 0 := by
  apply List.ext_getElem <;> simp [slotsP]
theorem slotsP_all (cs : List Contact) : slotsP cs cs.length = slotsL cs := by
  apply List.ext_getElem
  · simp [slotsP, slotsL]
  · intro i h1 h2
    simp [slotsP_len] at h1
    simp [slotsP, slotsL, h1]
theorem edgeAtN_get {cs : List Contact} {k : Nat} (h : k < cs.length) : edgeAtN cs k = isEdge cs[k] := by unfold edgeAtN; rw [List.getElem?_eq_getElem h]
theorem slotsP_edge {cs : List Contact} {k : Nat} (h : k < cs.length) (he : isEdge cs[k] = true) : (slotsP cs k).set k (slotN cs k : Int) = slotsP cs (k + 1) := by
  apply List.ext_getElem
  · simp [slotsP]
  · intro i h1 h2
    simp [slotsP_len] at h1
    rw [List.getElem_set]
    simp only [slotsP, List.getElem_map, List.getElem_range]
    split
    · rename_i e
      subst e
      rw [if_pos (by omega)]
      unfold slotI
      rw [if_pos (by rw [edgeAtN_get h]; exact he)]
    · by_cases hik : i < k
      · rw [if_pos hik, if_pos (by omega)]
      · rw [if_neg hik, if_neg (by omega)]
theorem slotsP_no {cs : List Contact} {k : Nat} (h : k < cs.length) (he : isEdge cs[k] = false) : slotsP cs k = slotsP cs (k + 1) := by
  apply List.ext_getElem
  · simp [slotsP]
  · intro i h1 h2
    simp only [slotsP, List.getElem_map, List.getElem_range]
    by_cases hik : i < k
    · rw [if_pos hik, if_pos (by omega)]
    · rw [if_neg hik]
      by_cases e : i = k
      · subst e
        rw [if_pos (by omega)]
        unfold slotI
        rw [if_neg (by rw [edgeAtN_get h, he]; decide)]
      · rw [if_neg (by omega)]
theorem loads_get {c : Contact} {j : Nat} (h : c.kind = j) (h4 : j < 4) : loadsT.getD j 0 = if c.kind < 2 then c.kind else c.kind + 4 := by
  rw [h]
  rcases (show j = 0 ∨ j = 1 ∨ j = 2 ∨ j = 3 by omega) with rfl | rfl | rfl | rfl <;> rfl
theorem loadI_eq {cs : List Contact} {i j : Nat} (h : i < cs.length) (hk : cs[i].kind = j) (h4 : j < 4) (hi : i < (slotsL cs).length) : loadI cs i = [⟨loadsT.getD j 0, cs[i].sp, cs[i].n, (slotsL cs)[i]⟩] := by
  unfold loadI
  rw [List.getElem?_eq_getElem h, loads_get hk h4, slotsL_get]
  unfold slotI
  rw [edgeAtN_get h]
theorem joins_get {q j : Nat} (hq : q = 1 ∨ q = 2) (hj : j < 2) : joinsT.getD (q * 2 + j) 0 = 2 * (q : Int) + j := by
  rcases hq with rfl | rfl <;> rcases (show j = 0 ∨ j = 1 by omega) with rfl | rfl <;> rfl
theorem joinI_eq {cs : List Contact} {i j q : Nat} (h : i < cs.length) (hk : cs[i].kind = j) (hj : j < 2) (hq : q = 1 ∨ q = 2) : joinI cs q i = [⟨joinsT.getD (q * 2 + j) 0, cs[i].sp, cs[i].n, 0⟩] := by
  unfold joinI
  rw [List.getElem?_eq_getElem h, joins_get hq hj, ← hk]
theorem pops_get {q : Nat} (hq : q = 1 ∨ q = 2) : popsT.getD q 0 = 8 + (q : Int) := by
  rcases hq with rfl | rfl <;> rfl
def layK1 (cs : List Contact) (k : Int) (x : PT) : List Ins := if x.kind = 0 ∧ edgeAtN cs x.n.toNat = false then joinI cs k x.n.toNat else ⟨8, 0, 0, 0⟩ :: (layC cs x ++ [⟨8 + k, 0, 0, 0⟩])
theorem layK_append (cs : List Contact) (k : Int) : ∀ (l r : List PT), layK cs k (l ++ r) = layK cs k l ++ layK cs k r
  | [], r => by simp [layK]
  | x :: l, r => by rw [List.cons_append, layK, layK, layK_append cs k l r, List.append_assoc]
theorem layK_take (cs : List Contact) (k : Int) (r : List PT) (j : Nat) (h : j < r.length) : layK cs k (r.take (j + 1)) = layK cs k (r.take j) ++ layK1 cs k r[j] := by
  rw [take_succ r j h, layK_append]
  congr 1
  rw [layK, layK, List.append_nil]
  rfl
theorem layC_kids (cs : List Contact) (t : PT) (h0 : t.kind ≠ 0) (hk : 0 < t.kids.length) : layC cs t = layC cs t.kids[0] ++ layK cs t.kind (t.kids.drop 1) := by
  obtain ⟨k, n, kids⟩ := t
  cases kids with
  | nil => simp [PT.kids] at hk
  | cons x r =>
    have h0 : k ≠ 0 := h0
    rw [layC, if_neg h0, layH]
    rfl
theorem layC_leaf (cs : List Contact) (t : PT) (h0 : t.kind = 0) : layC cs t = loadI cs t.n.toNat := by
  obtain ⟨k, n, kids⟩ := t
  have h0 : k = 0 := h0
  rw [layC, if_pos h0]
  rfl
def LayOk (cs : List Contact) (t : PT) : Prop := t.ok ∧ InR cs.length t.leaves
theorem LayOk.leaf {cs : List Contact} {t : PT} (h : LayOk cs t) (h0 : t.kind = 0) : 0 ≤ t.n ∧ t.n < cs.length := h.2 _ (by rw [leaves_leaf t h0]; simp)
theorem LayOk.shape {cs : List Contact} {t : PT} (h : LayOk cs t) (h0 : t.kind ≠ 0) : (t.kind = 1 ∨ t.kind = 2) ∧ 2 ≤ t.kids.length := by
  rcases ok_cases h.1 with h' | ⟨k1, _, k3, _, _⟩
  · exact absurd h'.1 h0
  · exact ⟨k1, k3⟩
theorem LayOk.kid {cs : List Contact} {t : PT} (h : LayOk cs t) (h0 : t.kind ≠ 0) {x : PT} (hx : x ∈ t.kids) : LayOk cs x := by
  rcases ok_cases h.1 with h' | ⟨k1, _, _, _, k5⟩
  · exact absurd h'.1 h0
  · exact ⟨k5 x hx, fun i hi => h.2 i (by rw [leaves_kids t k1]; exact mem_leavesL.2 ⟨x, hx, hi⟩)⟩
theorem LayOk.kid0 {cs : List Contact} {t : PT} (h : LayOk cs t) (h0 : t.kind ≠ 0) (hk : 0 < t.kids.length) : LayOk cs t.kids[0] := h.kid h0 (List.getElem_mem hk)
theorem LayOk.kidD {cs : List Contact} {t : PT} (h : LayOk cs t) (h0 : t.kind ≠ 0) {k : Nat} (hk : k < (t.kids.drop 1).length) : LayOk cs (t.kids.drop 1)[k] := h.kid h0 (List.mem_of_mem_drop (List.getElem_mem hk))
theorem kid_sizeD (t : PT) (k : Nat) (h : k < (t.kids.drop 1).length) : SizeOf.sizeOf (t.kids.drop 1)[k] < SizeOf.sizeOf t := by
  rw [List.getElem_drop]
  exact kid_size t (1 + k) (by rw [List.length_drop] at h; omega)
theorem kids_split (t : PT) (hk : 0 < t.kids.length) : t.kids = t.kids[0] :: t.kids.drop 1 := by
  have := List.drop_eq_getElem_cons hk
  simpa using this
theorem leavesL_len_take {l : List PT} {k : Nat} (h : k < l.length) : (leavesL (l.take k)).length + l[k].leaves.length ≤ (leavesL l).length := by
  have h1 := congrArg List.length (leavesL_append (l.take (k + 1)) (l.drop (k + 1)))
  rw [List.take_append_drop, leavesL_take l k h] at h1
  simp only [List.length_append] at h1
  omega
theorem lay_room {cs : List Contact} {t : PT} (h : LayOk cs t) (h0 : t.kind ≠ 0) {k : Nat} (hk0 : 0 < t.kids.length) (hk : k < (t.kids.drop 1).length) (q : Int) : (layC cs t.kids[0]).length + (layK cs q ((t.kids.drop 1).take k)).length + 3 + 4 * (t.kids.drop 1)[k].leaves.length ≤ 4 * t.leaves.length := by
  obtain ⟨k1, k2⟩ := h.shape h0
  have hs := kids_split t hk0
  have hl : t.leaves.length = t.kids[0].leaves.length + (leavesL (t.kids.drop 1)).length := by
    rw [leaves_kids t k1]
    conv => lhs; rw [hs]
    rw [leavesL, List.length_append]
  have a := h.kid0 h0 hk0
  have ha := layC_len t.kids[0] a.1 a.2
  have hp := ok_leaves _ a.1
  have hb := layK_len ((t.kids.drop 1).take k) q (okL_iff.2 fun x hx => (h.kid h0 (List.mem_of_mem_drop (List.mem_of_mem_take hx))).1) (fun i hi => h.2 i (by
    rw [leaves_kids t k1, hs, leavesL]
    refine List.mem_append_right _ ?_
    have := leavesL_append ((t.kids.drop 1).take k) ((t.kids.drop 1).drop k)
    rw [List.take_append_drop] at this
    rw [this]
    exact List.mem_append_left _ hi))
  have hc := leavesL_len_take hk
  omega
theorem lay_room0 {cs : List Contact} {t : PT} (h : LayOk cs t) (h0 : t.kind ≠ 0) (hk0 : 0 < t.kids.length) : t.kids[0].leaves.length ≤ t.leaves.length := by
  obtain ⟨k1, k2⟩ := h.shape h0
  rw [leaves_kids t k1]
  conv => rhs; rw [kids_split t hk0]
  rw [leavesL, List.length_append]
  omega
theorem layK1_join {cs : List Contact} {x : PT} {q i : Nat} {k : Int} (hq : k = q) (h0 : x.kind = 0) (hn : x.n = i) (hi : i < cs.length) (he : isEdge cs[i] = false) : layK1 cs k x = joinI cs q i := by
  unfold layK1
  rw [hn, Int.toNat_natCast, if_pos ⟨h0, by rw [edgeAtN_get hi]; exact he⟩, hq]
theorem layK1_edge {cs : List Contact} {x : PT} {q i : Nat} {k : Int} (hq : k = q) (hn : x.n = i) (hi : i < cs.length) (he : isEdge cs[i] = true) : layK1 cs k x = ⟨8, 0, 0, 0⟩ :: (layC cs x ++ [⟨8 + (q : Int), 0, 0, 0⟩]) := by
  unfold layK1
  rw [hn, Int.toNat_natCast, if_neg (by rw [edgeAtN_get hi, he]; simp), hq]
theorem layK1_kid {cs : List Contact} {x : PT} {q : Nat} {k : Int} (hq : k = q) (h0 : x.kind ≠ 0) : layK1 cs k x = ⟨8, 0, 0, 0⟩ :: (layC cs x ++ [⟨8 + (q : Int), 0, 0, 0⟩]) := by
  unfold layK1
  rw [if_neg (fun h => h0 h.1), hq]
def KindsOk (cs : List Contact) : Prop := ∀ (i : Nat) (h : i < cs.length), 0 ≤ cs[i].kind ∧ cs[i].kind < 4
theorem noEdge_kind {cs : List Contact} (hk : KindsOk cs) {i : Nat} (h : i < cs.length) (he : isEdge cs[i] = false) : cs[i].kind < 2 := by
  have := hk i h
  unfold isEdge at he
  have := of_decide_eq_false he
  omega
theorem LayOk.of {cs : List Contact} {t : PT} (h : Vld (cs.length : Int) [] t) : LayOk cs t := ⟨h.1, fun i hi => h.2.1 i hi⟩
/-! ### Trees' values over a list -/
def evOn (on : List Bool) : Nat → Bool := fun i => on.getD i false
def TOk (n : Nat) (t : PT) : Prop := t.ok ∧ InR n t.leaves
theorem TOk.leaf {n : Nat} {t : PT} (h : TOk n t) (h0 : t.kind = 0) : 0 ≤ t.n ∧ t.n < n := h.2 _ (by rw [leaves_leaf t h0]; simp)
theorem TOk.shape {n : Nat} {t : PT} (h : TOk n t) (h0 : t.kind ≠ 0) : (t.kind = 1 ∨ t.kind = 2) ∧ 2 ≤ t.kids.length := by
  rcases ok_cases h.1 with h' | ⟨k1, _, k3, _, _⟩
  · exact absurd h'.1 h0
  · exact ⟨k1, k3⟩
theorem TOk.kid {n : Nat} {t : PT} (h : TOk n t) (h0 : t.kind ≠ 0) {x : PT} (hx : x ∈ t.kids) : TOk n x := by
  rcases ok_cases h.1 with h' | ⟨k1, _, _, _, k5⟩
  · exact absurd h'.1 h0
  · exact ⟨k5 x hx, fun i hi => h.2 i (by rw [leaves_kids t k1]; exact mem_leavesL.2 ⟨x, hx, hi⟩)⟩
theorem TOk.of {n : Nat} {t : PT} (h : Vld (n : Int) [] t) : TOk n t := ⟨h.1, fun i hi => h.2.1 i hi⟩
theorem evalT_1 (on : Nat → Bool) (t : PT) (h : t.kind = 1) : evalT on t = !(t.kids.any fun x => !evalT on x) := by
  obtain ⟨k, n, kids⟩ := t
  have h : k = 1 := h
  rw [evalT, if_pos h, allT_eq]
  rfl
theorem evalT_2 (on : Nat → Bool) (t : PT) (h : t.kind = 2) : evalT on t = t.kids.any fun x => evalT on x := by
  obtain ⟨k, n, kids⟩ := t
  have h : k = 2 := h
  rw [evalT, if_neg (by omega), if_pos h, anyT_eq]
  rfl
theorem evalT_0 (on : Nat → Bool) (t : PT) (h1 : t.kind ≠ 1) (h2 : t.kind ≠ 2) : evalT on t = on t.n.toNat := by
  obtain ⟨k, n, kids⟩ := t
  have h1 : k ≠ 1 := h1
  have h2 : k ≠ 2 := h2
  rw [evalT, if_neg h1, if_neg h2]
  rfl
theorem evOn_get {on : List Bool} {i : Nat} (h : i < on.length) : evOn on i = on[i] := by unfold evOn; rw [List.getD_eq_getElem?_getD, List.getElem?_eq_getElem h]; rfl
/-! ### The reference's contacts -/
abbrev envOf (inp q m : List Bool) (cs : List Contact) (e : List Bool) : Env := ⟨⟨inp, q, m⟩, cs, e⟩
def RefI (V : Env) (k : Nat) (on E : List Bool) : Prop := (∀ i, i < k → V.okAt i) ∧ on = (List.range k).map V.on ∧ E = V.after (List.range k)
theorem RefI.zero (V : Env) : RefI V 0 [] V.e := ⟨fun i h => absurd h (Nat.not_lt_zero _), rfl, rfl⟩
theorem RefI.len {V : Env} {k : Nat} {on E : List Bool} (h : RefI V k on E) : on.length = k ∧ E.length = V.e.length := by
  rw [h.2.1, h.2.2, after_len]
  simp
theorem RefI.step {V : Env} {k : Nat} {on E : List Bool} (h : RefI V k on E) (ho : V.okAt k) {x : Bool} (hx : x = V.on k) {E' : List Bool} (hE : E' = V.set1 E k) : RefI V (k + 1) (on ++ [x]) E' := by
  refine ⟨fun i hi => ?_, ?_, ?_⟩
  · rcases Nat.lt_or_ge i k with hlt | hge
    · exact h.1 i hlt
    · obtain rfl : i = k := by omega
      exact ho
  · rw [hx, List.range_succ, List.map_append, h.2.1]
    rfl
  · rw [hE, h.2.2, List.range_succ, after_snoc]
theorem RefI.lo {V : Env} {k : Nat} {on E : List Bool} (h : RefI V k on E) (hk : k < V.cs.length) (h0 : ¬ (V.cs[k].kind < 0 ∨ V.cs[k].kind > 3)) (h2 : V.cs[k].kind < 2) (hr : (V.rd V.cs[k].sp V.cs[k].n).2 = 0) : RefI V (k + 1) (on ++ [(V.rd V.cs[k].sp V.cs[k].n).1 == decide (V.cs[k].kind = 0)]) E := by
  have hc : V.cs[k]? = some V.cs[k] := List.getElem?_eq_getElem hk
  have hne : isEdge V.cs[k] = false := by unfold isEdge; rw [decide_eq_false]; omega
  refine h.step (fun c hc' => ?_) ?_ ?_
  · rw [hc] at hc'
    injection hc' with hc'
    subst hc'
    exact ⟨by omega, by omega, hr, fun he => by rw [hne] at he; cases he⟩
  · unfold Env.on Env.bit onOf
    rw [hc]
    simp only []
    rw [if_pos h2]
  · unfold Env.set1
    rw [hc]
    simp only [hne]
    rfl
theorem RefI.hi {V : Env} {k : Nat} {on E : List Bool} (h : RefI V k on E) (hk : k < V.cs.length) (h0 : ¬ (V.cs[k].kind < 0 ∨ V.cs[k].kind > 3)) (h2 : ¬ V.cs[k].kind < 2) (hr : (V.rd V.cs[k].sp V.cs[k].n).2 = 0) (hs : slotN V.cs k < V.e.length) (x : Bool)
    (hx : x = (((V.rd V.cs[k].sp V.cs[k].n).1 != V.e[slotN V.cs k]) && ((V.rd V.cs[k].sp V.cs[k].n).1 == decide (V.cs[k].kind = 2)))) : RefI V (k + 1) (on ++ [x]) (E.set (slotN V.cs k) (V.rd V.cs[k].sp V.cs[k].n).1) := by
  have hc : V.cs[k]? = some V.cs[k] := List.getElem?_eq_getElem hk
  have he : isEdge V.cs[k] = true := by unfold isEdge; rw [decide_eq_true]; omega
  refine h.step (fun c hc' => ?_) ?_ ?_
  · rw [hc] at hc'
    injection hc' with hc'
    subst hc'
    exact ⟨by omega, by omega, hr, fun _ => hs⟩
  · rw [hx]
    unfold Env.on Env.bit onOf
    rw [hc]
    simp only []
    rw [if_neg h2, List.getD_eq_getElem?_getD, List.getElem?_eq_getElem hs]
    rfl
  · unfold Env.set1 Env.bit
    rw [hc]
    simp only [he]
    rfl
theorem RefI.slot_lo {cs : List Contact} {k : Nat} (hk : k < cs.length) (h2 : cs[k].kind < 2) : slotN cs (k + 1) = slotN cs k := by
  rw [slotN_succ cs k hk, if_neg (by unfold isEdge; rw [decide_eq_false (by omega)]; decide)]
  rfl
theorem RefI.slot_hi {cs : List Contact} {k : Nat} (hk : k < cs.length) (h0 : ¬ (cs[k].kind < 0 ∨ cs[k].kind > 3)) (h2 : ¬ cs[k].kind < 2) : slotN cs (k + 1) = slotN cs k + 1 := by
  rw [slotN_succ cs k hk, if_pos (by unfold isEdge; rw [decide_eq_true (by omega)])]
theorem RefI.done {V : Env} {on E : List Bool} (h : RefI V V.cs.length on E) : V.ok := fun i hi => h.1 i hi
end Go.Proofs.YtolggjmgfijjfaaGreatDoor.Sep

/- Rules for what law 17's example runs through: rounds of a loop one by one, ranges over strings and over empty maps, instructions compared; the example itself. -/
namespace Go.Proofs.YtolggjmgfijjfaaGreatDoor.Sep
open Go Go.Proofs

section
variable {P : Program} {Q : Exit → Act → World → Prop} {G : Ctx} {n : Nat} {D : List Deferred} {L : List (Nat × Value)} {Γ : List Fact}
variable {d : Option Nat} {ty : TypeId} {ps : String} {af : Array Go.Edge} {gd : Option (Nat × Bool)}
/-! ### A loop's rounds, one by one -/
def WR (P : Program) (Q : Exit → Act → World → Prop) (G : Ctx) (n : Nat) (D : List Deferred) (c : Code) (m : Nat) (L : List (Nat × Value)) (Γ : List Fact) : Prop := ∀ a w S, Fr n D a L → Hold G Γ S w → Code.rounds P c Q m a w
theorem WC.unroll {c : Code} (m : Nat) (k : WR P Q G n D c m L Γ) : WC P Q G n D (.loop c) L Γ := fun a w S hf hh => wp_loop_rounds m (k a w S hf hh)
theorem WR.one {c : Code} {m : Nat} (k : WC P (Exit.then (Code.rounds P c Q m) Q) G n D c L Γ) : WR P Q G n D c (m + 1) L Γ := fun a w S hf hh => k a w S hf hh
theorem WX.again {c : Code} {m : Nat} (k : WR P Q G n D c m L Γ) : WX (Exit.then (Code.rounds P c Q m) Q) G n D .normal L Γ := fun a w S hf hh => k a w S hf hh
/-! ### Things in the memory that are not cells -/
def objF (b : Nat) (p : Obj → Prop) : Fact where
  own k := k = b
  ok _ w := ∃ o, w.heap[b]? = some o ∧ p o
  lt S w k h hk := by obtain ⟨o, h, _⟩ := h; subst hk; exact (Array.getElem?_eq_some_iff.1 h).1
  stable S S' w w' h _ hb := by obtain ⟨o, h, hp⟩ := h; exact ⟨o, by rw [hb b (.inl rfl)]; exact h, hp⟩
def strIt (s : ByteArray) (pos : Nat) : Obj → Prop := fun o => o = .stringIter s pos
def mapIt (m : Nat) : Obj → Prop := fun o => ∃ a c, o = .mapIter (some m) a #[] c
theorem run_getStr {w : World} {b pos : Nat} {s : ByteArray} (hb : w.heap[b]? = some (.stringIter s pos)) : (getObj b).run P w = .ok (.stringIter s pos) w := by simp [getObj, Sem.run, hb]
theorem run_setStr {w : World} {b pos : Nat} {s : ByteArray} (o : Obj) (hb : w.heap[b]? = some (.stringIter s pos)) : (setObj b o).run P w = .ok () { w with heap := w.heap.setIfInBounds b o } := by simp [setObj, Sem.run, hb]
theorem run_getIt {w : World} {b s c : Nat} {m : Option Nat} {l : Array Nat} (hb : w.heap[b]? = some (.mapIter m s l c)) : (getObj b).run P w = .ok (.mapIter m s l c) w := by simp [getObj, Sem.run, hb]
theorem Ld.rangeStr {t : TypeId} {x : Operand} {s : ByteArray} (ht : P.underlying t = some .string) (hx : ev L x = some (.string s)) : Ld P n D ⟨d, .range t x, ty, ps, af, gd⟩ L [] fun v Δ => ∃ b, v = .pointer (some ⟨b, 0, none⟩) ∧ Δ = [objF b (strIt s 0)] := by
  intro a hf w S hs
  refine ⟨.pointer (some ⟨w.heap.size, 0, none⟩), w.alloc (.stringIter s 0), _, S, .inl ?_, ⟨w.heap.size, rfl, rfl⟩, ?_⟩
  · have := run_range_string (P := P) w t s ht
    simp only [execOp, hf.eval hx, Sem.run_bind, this, Result.andThen_ok, Sem.run_pure]
    rfl
  · exact Hold.one hs (Keeps.alloc _ _ _) _ ⟨_, heap_alloc_new w _, rfl⟩ (fun k hk => .inr (Nat.le_of_eq hk.symm))
theorem setHeap_other (w : World) (b k : Nat) (o : Obj) (h : k ≠ b) : ({ w with heap := w.heap.setIfInBounds b o } : World).heap[k]? = w.heap[k]? := by
  show (w.heap.setIfInBounds b o)[k]? = _
  rw [Array.getElem?_setIfInBounds_ne (by omega)]
theorem Keeps.setHeap {O : Nat → Prop} (w : World) (b : Nat) (o : Obj) (h : O b) : Keeps O w { w with heap := w.heap.setIfInBounds b o } := ⟨rfl, rfl, rfl, by simp, fun k _ hk => setHeap_other w b k o (fun e => hk (by rw [e]; exact h)), Nat.le_refl _⟩
theorem Ld.nextStr {x : Operand} {s : ByteArray} {b pos c : Nat} (hx : ev L x = some (.pointer (some ⟨b, 0, none⟩))) (h : pos < s.size) (hc : Utf8.decode s pos = (c, 1)) : Ld P n D ⟨d, .next x true, ty, ps, af, gd⟩ L [objF b (strIt s pos)] fun v Δ => v = .tuple #[.bool true, .int .i64 pos, .int .i32 (c : Int)] ∧ Δ = [objF b (strIt s (pos + 1))] := by
  intro a hf w S hs
  obtain ⟨o, hb, rfl⟩ : (objF b (strIt s pos)).ok S w := hs.facts _ List.mem_cons_self
  have hlt : b < w.heap.size := (Array.getElem?_eq_some_iff.1 hb).1
  refine ⟨_, { w with heap := w.heap.setIfInBounds b (.stringIter s (pos + 1)) }, _, S, .inl ?_, ⟨rfl, rfl⟩, ?_⟩
  · simp [execOp, hf.eval hx, Instr.next, run_getStr hb, h, hc, goInt, run_setStr _ hb]
  · refine Hold.one hs (Keeps.setHeap w b _ (Own.head (F := objF b (strIt s pos)) rfl)) _ ⟨_, ?_, rfl⟩ (fun k hk => .inl (Own.head (F := objF b (strIt s pos)) hk))
    show (w.heap.setIfInBounds b _)[b]? = _
    rw [Array.getElem?_setIfInBounds_self_of_lt hlt]
theorem Ld.nextStrEnd {x : Operand} {s : ByteArray} {b pos : Nat} (hx : ev L x = some (.pointer (some ⟨b, 0, none⟩))) (h : ¬ pos < s.size) : Ld P n D ⟨d, .next x true, ty, ps, af, gd⟩ L [objF b (strIt s pos)] fun v Δ => v = .tuple #[.bool false] ∧ Δ = [objF b (strIt s pos)] := by
  intro a hf w S hs
  have hbf : (objF b (strIt s pos)).ok S w := hs.facts _ List.mem_cons_self
  obtain ⟨o, hb, rfl⟩ := hbf
  refine ⟨.tuple #[.bool false], w, _, S, .inl ?_, ⟨rfl, rfl⟩, hs⟩
  simp [execOp, hf.eval hx, Instr.next, run_getStr hb, h]
theorem Ld.rangeMap {κ ν : Type} [DecidableEq κ] {E : KeyEnc κ} {V : ν → Value} {m : List (κ × ν)} {t k e : TypeId} {x : Operand} {b : Nat} (ht : P.underlying t = some (.map k e)) (hx : ev L x = some (.map (some b))) : Ld P n D ⟨d, .range t x, ty, ps, af, gd⟩ L [mp E V b m] fun v Δ => ∃ r, v = .pointer (some ⟨r, 0, none⟩) ∧ Δ = [mp E V b m, objF r (mapIt b)] := by
  intro a hf w S hs
  have hm : (mp E V b m).ok S w := hs.facts _ List.mem_cons_self
  obtain ⟨es, clk, hb, hes⟩ := hm
  have hlt : b < w.heap.size := (Array.getElem?_eq_some_iff.1 hb).1
  refine ⟨.pointer (some ⟨w.heap.size, 0, none⟩), w.alloc (.mapIter (some b) clk #[] clk), _, S, .inl ?_, ⟨w.heap.size, rfl, rfl⟩, ?_⟩
  · simp [execOp, hf.eval hx, Instr.range, run_underlying ht, run_getObj hb, newObj]
    rfl
  · refine Hold.list hs (Keeps.alloc _ _ _) (fun X h => ?_) ?_ (fun X h k hX => ?_) (fun k h => Nat.lt_of_lt_of_le (hs.sub k h) (by simp)) (fun _ h => h) (fun _ h => .inl h)
    · simp only [List.mem_cons, List.not_mem_nil, or_false] at h
      rcases h with rfl | rfl
      · refine ⟨es, clk, ?_, hes⟩
        have := (World.grownBy_alloc w (.mapIter (some b) clk #[] clk) none).block b hlt (by simp)
        rw [this]
        exact hb
      · exact ⟨_, heap_alloc_new w _, _, _, rfl⟩
    · refine List.pairwise_cons.2 ⟨fun F hF k h1 h2 => ?_, List.pairwise_cons.2 ⟨fun F hF => (nomatch hF), List.Pairwise.nil⟩⟩
      obtain rfl := List.mem_singleton.1 hF
      have h1 : k = b := h1
      have h2 : k = w.heap.size := h2
      omega
    · simp only [List.mem_cons, List.not_mem_nil, or_false] at h
      rcases h with rfl | rfl
      · have hX : k = b := hX
        have ho : Own [mp E V b m] k := Own.head (F := mp E V b m) hX
        exact ⟨hs.notS (.inl ho), .inl ho⟩
      · have hX : k = w.heap.size := hX
        have hge : w.heap.size ≤ k := Nat.le_of_eq hX.symm
        exact ⟨hs.notS (.inr hge), .inr hge⟩
theorem Ld.nextMapEnd {κ ν : Type} [DecidableEq κ] {E : KeyEnc κ} {V : ν → Value} {x : Operand} {b r : Nat} (hx : ev L x = some (.pointer (some ⟨r, 0, none⟩))) : Ld P n D ⟨d, .next x false, ty, ps, af, gd⟩ L [mp E V b [], objF r (mapIt b)] fun v Δ => v = .tuple #[.bool false] ∧ Δ = [mp E V b [], objF r (mapIt b)] := by
  intro a hf w S hs
  have hm : (mp E V b []).ok S w := hs.facts _ List.mem_cons_self
  have hr : (objF r (mapIt b)).ok S w := hs.facts _ (List.mem_cons_of_mem _ List.mem_cons_self)
  obtain ⟨es, clk, hb, hes⟩ := hm
  obtain ⟨o, hro, a0, c0, rfl⟩ := hr
  have hes0 : es = #[] := by
    have : es.toList = [] := by simpa using hes
    exact Array.toList_eq_nil_iff.1 this
  subst hes0
  refine ⟨.tuple #[.bool false], w, _, S, .inl ?_, ⟨rfl, rfl⟩, hs⟩
  simp [execOp, hf.eval hx, Instr.next, run_getIt hro, run_getObj hb, choose, Sem.run, Question.forced]
/-! ### Instructions compared -/
def IE (P : Program) (t : TypeId) : Prop := ∃ fs f g h gs p q sz by_ z, P.underlying t = some (.struct fs) ∧ fs.toList = [f, g, h] ∧ (f.name ≠ "_" ∧ g.name ≠ "_" ∧ h.name ≠ "_") ∧ (f.offset = 0 ∧ g.offset = 1 ∧ h.offset = 3) ∧
  P.underlying f.type = some (.int .i64) ∧ P.underlying g.type = some (.struct gs) ∧ P.underlying h.type = some (.int .i64) ∧ gs.toList = [p, q] ∧ (p.name ≠ "_" ∧ q.name ≠ "_") ∧ (p.offset = 0 ∧ q.offset = 1) ∧
  P.underlying p.type = some (.int .i64) ∧ P.underlying q.type = some (.int .i64) ∧ P.stoodInHeld t = false ∧ P.stoodInHeld g.type = false ∧ P.eqGuardType P.depth t = false ∧ TI P g.type z sz by_ ∧ sz = 2
theorem IE.run {P : Program} {t : TypeId} (h : IE P t) (a b c e : Int) (w : World) : (Op.equal t (.agg #[.int .i64 a, .int .i64 b, .int .i64 c, .int .i64 e]) (.agg #[.int .i64 a, .int .i64 b, .int .i64 c, .int .i64 e])).run P w = .ok true w := by
  obtain ⟨fs, f, g, h, gs, p, q, sz, by_, z, h1, h2, ⟨n1, n2, n3⟩, ⟨o1, o2, o3⟩, t1, t2, t3, h4, ⟨m1, m2⟩, ⟨r1, r2⟩, s1, s2, k1, k2, k3, hi, hsz⟩ := h
  have hf : P.fieldsOf t = fs := by simp [Program.fieldsOf, h1]
  have hg : P.fieldsOf g.type = gs := by simp [Program.fieldsOf, t2]
  have hpart : ∀ (ty : TypeId) (cs : Array Value) (off : Nat) (v : Value), P.underlying ty = some (.int .i64) → cs[off]? = some v → (part ty cs off).run P w = .ok v w := fun ty cs off v hu hv => by
    simp [part, isAgg, run_underlying hu, hv]
  have hpg : (part g.type #[.int .i64 a, .int .i64 b, .int .i64 c, .int .i64 e] 1).run P w = .ok (.agg #[.int .i64 b, .int .i64 c]) w := by
    simp [part, isAgg, run_underlying t2, hi.size, hsz]
  have hin : ∀ (k : Nat) (ty : TypeId) (u : Int), P.underlying ty = some (.int .i64) → (Op.equalIn (k + 1) ty (.int .i64 u) (.int .i64 u)).run P w = .ok true w := fun k ty u hu => by
    rw [run_equalIn_int (P := P) w k ty .i64 .i64 u u hu]; simp
  have hb : (Op.equalIn (9998 + 1) g.type (.agg #[.int .i64 b, .int .i64 c]) (.agg #[.int .i64 b, .int .i64 c])).run P w = .ok true w := by
    rw [run_equalIn_struct (P := P) w 9998 g.type _ _ (by rw [hg]; exact t2) k2, hg, h4]
    have p1 := hpart p.type #[.int .i64 b, .int .i64 c] 0 _ s1 rfl
    have p2 := hpart q.type #[.int .i64 b, .int .i64 c] 1 _ s2 rfl
    have q1 := hin 9997 p.type b s1
    have q2 := hin 9997 q.type c s2
    simp [Op.eqFields, m1, m2, r1, r2, p1, p2, q1, q2, Result.andThen]
  have hq : ∀ x, Op.equal t x x = Op.equalIn (9999 + 1) t x x := fun x => rfl
  rw [hq, run_equalIn_struct (P := P) w 9999 t _ _ (by rw [hf]; exact h1) k1, hf, h2]
  have p1 := hpart f.type #[.int .i64 a, .int .i64 b, .int .i64 c, .int .i64 e] 0 _ t1 rfl
  have p3 := hpart h.type #[.int .i64 a, .int .i64 b, .int .i64 c, .int .i64 e] 3 _ t3 rfl
  have q1 := hin 9998 f.type a t1
  have q3 := hin 9998 h.type e t3
  simp [Op.eqFields, n1, n2, n3, o1, o2, o3, p1, hpg, p3, q1, hb, q3, Result.andThen]
theorem Qt.insNeqSelf {x y : Operand} {t u : TypeId} {a b c e : Int} (h : IE P t) (hx : ev L x = some (.agg [.int .i64 a, .int .i64 b, .int .i64 c, .int .i64 e].toArray)) (hy : ev L y = some (.agg [.int .i64 a, .int .i64 b, .int .i64 c, .int .i64 e].toArray)) : Qt P G n D ⟨d, .binOp .neq t x y u, ty, ps, af, gd⟩ L Γ (.bool false) := fun act w S hf hh => by
  have hr := h.run a b c e w
  have hp : (program : Sem Program).run P w = .ok P w := rfl
  obtain ⟨fs, f, g, h, gs, p, q, sz, by_, z, h1, h2, _, _, _, _, _, _, _, _, _, _, _, _, k3, _⟩ := h
  have hg : (eqGuard .neq t x y (.agg #[.int .i64 a, .int .i64 b, .int .i64 c, .int .i64 e]) (.agg #[.int .i64 a, .int .i64 b, .int .i64 c, .int .i64 e])).run P w = .ok () w := by
    simp [eqGuard, hp, k3]
  have hb : (binOp .neq t (.agg #[.int .i64 a, .int .i64 b, .int .i64 c, .int .i64 e]) (.agg #[.int .i64 a, .int .i64 b, .int .i64 c, .int .i64 e])).run P w = .ok (.bool false) w := by
    simp [binOp, hr]
  have hx' : act.eval x = .agg #[.int .i64 a, .int .i64 b, .int .i64 c, .int .i64 e] := hf.eval hx
  have hy' : act.eval y = .agg #[.int .i64 a, .int .i64 b, .int .i64 c, .int .i64 e] := hf.eval hy
  simp only [execOp, hx', hy', Sem.run_bind, hg, Result.andThen_ok, hb, Sem.run_pure]
end
/-! ### The law's example -/
def ex17 : List Contact := [⟨0, 0, 0, ⟨#[76]⟩, ⟨#[97]⟩⟩, ⟨1, 0, 1, ⟨#[97]⟩, ⟨#[82]⟩⟩]
def tr17 : PT := .mk 1 0 [lf 0, lf 1]
def sk17 : Sk := .ser (.e (lf 0)) sa (.e (lf 1))
theorem sked17 : Sked tr17 (initE ex17 ex17.length) sk17 where
  es := by
    have : initE ex17 ex17.length = sk17.es sL sR := rfl
    rw [this]
  good := by
    refine good_iff.2 ?_
    simp only [sk17, Sk.mids, List.nil_append, List.append_nil]
    decide
  ok := by
    have hl : ∀ i, (lf i).ok := fun i => ok_of (.inl ⟨rfl, rfl⟩)
    exact ⟨hl 0, hl 1⟩
  nodup := by
    have : sk17.lv = [0, 1] := by simp [sk17, Sk.lv, lf, PT.leaves]
    rw [this]
    decide
  can := by
    simp [sk17, Sk.tr, joinT, flatK, lf, PT.kind, PT.kids, srtT, srtL, sortIns, insT, leastT, minL, PT.leaves, leavesL, tr17]
theorem alive17 {e : Int} {u : PT} (h : Red ex17 e u) : e = 0 ∧ u = tr17 := by
  rcases h with ⟨h, _, hr⟩ | ⟨_, _, h⟩
  · exact ⟨h, (sked17.redOk hr).symm ▸ rfl⟩
  · exact absurd (h (wf_of sked17.es sked17.good)).2 sked17.redBad
theorem vld17 : Vld ((2 : Nat) : Int) [] tr17 ∧ (tr17.leaves.length : Int) = max 0 ((2 : Nat) : Int) := by
  have hl : tr17.leaves = [0, 1] := by simp [tr17, lf, PT.leaves, leavesL]
  refine ⟨⟨by simp [tr17, lf, PT.ok, noKind, okL, PT.kind], ?_⟩, by rw [hl]; decide⟩
  rw [hl]
  refine ⟨fun x hx => ?_, by decide, by simp⟩
  simp only [List.mem_cons, List.not_mem_nil, or_false] at hx
  omega
theorem kinds17 : KindsOk ex17 := by
  unfold KindsOk
  decide
theorem code17 : layC ex17 tr17 = [⟨0, 0, 0, 0⟩, ⟨3, 0, 1, 0⟩] := by
  simp [tr17, lf, layC, layH, layK, loadI, joinI, ex17, edgeAtN, isEdge, PT.kind, PT.n]
def co17 : List Coil := [⟨0, 1, 0⟩]
theorem reps_ex17 {S : Nat → Prop} {w : World} : Reps kContact S w ex17 [.int .i64 0, .int .i64 0, .int .i64 0, .string ⟨#[76]⟩, .string ⟨#[97]⟩, .int .i64 1, .int .i64 0, .int .i64 1, .string ⟨#[97]⟩, .string ⟨#[82]⟩] :=
  Reps.append (xs := [Contact.mk 0 0 0 ⟨#[76]⟩ ⟨#[97]⟩]) (ys := [Contact.mk 1 0 1 ⟨#[97]⟩ ⟨#[82]⟩]) (l := [.int .i64 0, .int .i64 0, .int .i64 0, .string ⟨#[76]⟩, .string ⟨#[97]⟩]) (m := [.int .i64 1, .int .i64 0, .int .i64 1, .string ⟨#[97]⟩, .string ⟨#[82]⟩]) (Reps.one rfl) (Reps.one rfl)
theorem reps_co17 {S : Nat → Prop} {w : World} : Reps kCoil S w co17 [.int .i64 0, .int .i64 1, .int .i64 0] := Reps.one rfl
theorem reps_ins4 {S : Nat → Prop} {w : World} (a b c d : Ins) : Reps kIns S w [a, b, c, d] [.int .i64 a.op, .int .i64 a.sp, .int .i64 a.n, .int .i64 a.arg, .int .i64 b.op, .int .i64 b.sp, .int .i64 b.n, .int .i64 b.arg, .int .i64 c.op, .int .i64 c.sp, .int .i64 c.n, .int .i64 c.arg, .int .i64 d.op, .int .i64 d.sp, .int .i64 d.n, .int .i64 d.arg] :=
  Reps.append (xs := [a]) (ys := [b, c, d]) (l := [.int .i64 a.op, .int .i64 a.sp, .int .i64 a.n, .int .i64 a.arg]) (Reps.one rfl) (Reps.append (xs := [b]) (ys := [c, d]) (l := [.int .i64 b.op, .int .i64 b.sp, .int .i64 b.n, .int .i64 b.arg]) (Reps.one rfl) (Reps.append (xs := [c]) (ys := [d]) (l := [.int .i64 c.op, .int .i64 c.sp, .int .i64 c.n, .int .i64 c.arg]) (Reps.one rfl) (Reps.one rfl)))
end Go.Proofs.YtolggjmgfijjfaaGreatDoor.Sep

/- Law 17's plain part: the code of a reduced rung, run on the machine, agrees with the reference. Nothing here speaks of a program. -/
namespace Go.Proofs.YtolggjmgfijjfaaGreatDoor.Sep
open Go Go.Proofs

theorem red_perm {cs : List Contact} {u : PT} (hw : WF cs) (h : RedOk cs u) : u.leaves.Perm (nums cs.length) := by
  obtain ⟨_, ⟨rk, hrk⟩, _⟩ := hw
  obtain ⟨x, hs, hok, hu⟩ := h
  have hp := (steps_inv hrk hs).2
  have hx : x.leaves.Perm (nums cs.length) := by simpa [lvE] using hp
  have hn : x.leaves.Nodup := hx.nodup_iff.2 (nums_nodup _)
  have e := srtT_of hok hn hu
  subst e
  exact (srtT_sorts hok).leaves.trans hx
theorem natsL_nums (n : Nat) : natsL (nums n) = List.range n := by
  unfold natsL nums
  rw [List.map_map]
  have : (Int.toNat ∘ fun i : Nat => (i : Int)) = id := by funext i; simp
  rw [this, List.map_id]
mutual
theorem evalT_congr {f g : Nat → Bool} : ∀ (t : PT), t.ok → (∀ i, i ∈ t.leaves → f i.toNat = g i.toNat) → evalT f t = evalT g t
  | .mk k n kids, ho, h => by
    rw [evalT, evalT]
    rcases ok_cases ho with ⟨h0, _⟩ | ⟨k1, _, _, _, k5⟩
    · have h0 : k = 0 := h0
      have hl : (PT.mk k n kids).leaves = [n] := leaves_leaf _ h0
      rw [if_neg (by omega), if_neg (by omega), if_neg (by omega), if_neg (by omega)]
      exact h n (by rw [hl]; simp)
    · have hl : (PT.mk k n kids).leaves = leavesL kids := leaves_kids _ k1
      rw [hl] at h
      have hc := evalL_congr kids (okL_iff.2 k5) h
      rw [hc.1, hc.2]
      have k1 : k = 1 ∨ k = 2 := k1
      rcases k1 with rfl | rfl <;> simp
theorem evalL_congr {f g : Nat → Bool} : ∀ (l : List PT), okL l → (∀ i, i ∈ leavesL l → f i.toNat = g i.toNat) → allT f l = allT g l ∧ anyT f l = anyT g l
  | [], _, _ => ⟨rfl, rfl⟩
  | x :: r, ho, h => by
    rw [okL] at ho
    rw [leavesL] at h
    have h1 := evalT_congr x ho.1 (fun i hi => h i (List.mem_append_left _ hi))
    have h2 := evalL_congr r ho.2 (fun i hi => h i (List.mem_append_right _ hi))
    rw [allT, allT, anyT, anyT, h1, h2.1, h2.2]
    exact ⟨rfl, rfl⟩
end
theorem RefI.ok {V : Env} {on E : List Bool} (h : RefI V V.cs.length on E) : V.ok := fun i hi => h.1 i hi
theorem kinds_ref {inp q m e : List Bool} {cs : List Contact} {on E : List Bool} (h : RefI (envOf inp q m cs e) cs.length on E) : KindsOk cs := fun i hi => by
  have := h.1 i hi cs[i] (List.getElem?_eq_getElem hi)
  omega
structure Law17 (cs : List Contact) (inp q m e on E : List Bool) (u : PT) : Prop where
  ref : RefI (envOf inp q m cs e) cs.length on E
  wf : WF cs
  red : RedOk cs u
  le : cs.length ≤ 60
namespace Law17
variable {cs : List Contact} {inp q m e on E : List Bool} {u : PT} (h : Law17 cs inp q m e on E u)
include h
theorem vld : Vld (cs.length : Int) [] u ∧ (u.leaves.length : Int) = max 0 (cs.length : Int) := by
  obtain ⟨h1, h2, _⟩ := red_vld h.wf h.red
  exact ⟨h1, by omega⟩
theorem onlen : on.length = cs.length := h.ref.len.1
theorem vldOn : Vld (on.length : Int) [] u ∧ (u.leaves.length : Int) = max 0 (on.length : Int) := by rw [h.onlen]; exact h.vld
theorem kinds : KindsOk cs := kinds_ref h.ref
theorem len : cs.length ≤ (layC cs u).length ∧ (layC cs u).length ≤ 180 := by
  obtain ⟨h1, h2, _⟩ := red_vld h.wf h.red
  have := layC_len u h1.1 (LayOk.of h1).2
  have := h.le
  omega
theorem run : (Bits.mk inp q m).run (layC cs u) ⟨false, [], e⟩ = some ⟨evalT (evOn on) u, [], E⟩ := by
  obtain ⟨h1, h2, _⟩ := red_vld h.wf h.red
  have hle := h.le
  have hr := lay_run (V := envOf inp q m cs e) h.ref.ok u [] ⟨false, [], e⟩ h1.1 (LayOk.of h1).2 h1.2.2.1 (fun i _ hm => nomatch hm) rfl (by show 0 + u.leaves.length ≤ 64; omega)
  have hp := (red_perm h.wf h.red).map Int.toNat
  have hp2 : (natsL u.leaves).Perm (List.range cs.length) := by
    rw [← natsL_nums]
    exact hp
  have he : (envOf inp q m cs e).after ([] ++ natsL u.leaves) = E := by
    rw [h.ref.2.2, List.nil_append]
    exact after_perm _ hp2
  rw [he] at hr
  rw [show (Bits.mk inp q m).run (layC cs u) ⟨false, [], e⟩ = _ from hr]
  congr 2
  refine evalT_congr u h1.1 fun i hi => ?_
  have hi := (LayOk.of h1).2 i hi
  have hl : i.toNat < cs.length := by omega
  unfold evOn
  rw [h.ref.2.1]
  simp [List.getD_eq_getElem?_getD, hl]
end Law17
theorem fin_eq {V : Bits} {l : List Ins} {a s : MS} {k : Nat} {s0 : MS} (h : V.run l s0 = some a) (hk : k = l.length) (hs : V.run (l.take k) s0 = some s) : s = a := by
  rw [hk, List.take_length, h] at hs
  injection hs with hs
  exact hs.symm
theorem snoc_lt {l : List Ins} {x : Ins} {k : Nat} (h : k < l.length) (h' : k < (l ++ [x]).length) : (l ++ [x])[k] = l[k] := List.getElem_append_left h
theorem snoc_end {l : List Ins} {x : Ins} {k : Nat} (h : k = l.length) (h' : k < (l ++ [x]).length) : (l ++ [x])[k] = x := by subst h; simp
end Go.Proofs.YtolggjmgfijjfaaGreatDoor.Sep

/- Reading arguments: slices of bools, three of them in a struct; how much an argument weighs; tables of numbers. Nothing here speaks of a program. -/
namespace Go.Proofs.YtolggjmgfijjfaaGreatDoor.Sep
open Go Go.Proofs Go.ChangeShapes Go.WideShapes Go.RowKit

section
variable {H : Type} {enc : TypeId × Value → H} {P : Program} {w : World} {base : Nat} {sp : Nat → Bool} {hd : Bool}
theorem slice_weight {t te : TypeId} (ht : P.underlying t = some (.slice te)) {fuel n c m : Nat} {A : Option Addr} {x : DataW H × List MemPlace} (h : DataW.trod enc P w base sp hd fuel t [.slice A n c] = some x) (hw : ∀ k, k ∈ x.1.weights P t → k ≤ m) (hb : 0 < P.bytesOf te) : n ≤ m := by
  rcases DataW.trod_slice ht h with ⟨hc, _⟩ | ⟨p, len, cap, elems, rest, n', _, hc, rfl, _, _, _, hlen, _⟩
  · have : n = 0 := by simp at hc; exact hc.2.1
    omega
  · have hn : n = len := by simp at hc; exact hc.2.1
    have := hw ((elems.length + rest.length) * P.bytesOf te) (by simp [DataW.weights, ht])
    have h1 : (elems.length + rest.length) * 1 ≤ (elems.length + rest.length) * P.bytesOf te := Nat.mul_le_mul_left _ hb
    omega
theorem open_boolEl {te : TypeId} (hu : P.underlying te = some .bool) (f : Nat) (cs : List Value) (x : DataW H × List MemPlace) (h : DataW.trod enc P w base sp hd f te cs = some x) : ∃ y, kBool.K (fun k => k < w.heap.size) w y cs := by
  obtain ⟨b, hb, _⟩ := DataW.trod_bool hu h
  exact ⟨b, hb⟩
theorem arg_bools {t te : TypeId} (ht : P.underlying t = some (.slice te)) (hu : P.underlying te = some .bool) (hz : P.cellsOf te = 1) {r : Reach} {b0 : Nat} {v : Value} {d : DataW H} {ps : List MemPlace} (hval : Value.okWide P w r b0 t v) (h : DataW.Trod enc P w base sp hd t v d ps) :
    ∃ (l : List Bool) (A : Option Addr) (c : Nat), v = .slice A l.length c ∧ (rd kBool A c l).ok (fun k => k < w.heap.size) w := by
  obtain ⟨fuel, hf⟩ := h
  obtain ⟨A, c, l, hcs, hr⟩ := open_slice kBool ht hz (by decide) (open_boolEl hu) hf
  refine ⟨l, A, c, ?_, hr⟩
  unfold Value.okWide at hval
  rw [ht] at hval
  cases v <;> simp_all [Value.cells, Cell.okWide, Cell.ok]
structure StateT (P : Program) (ts tb te : TypeId) (f0 f1 f2 : Field) : Prop where
  st : P.underlying ts = some (.struct #[f0, f1, f2])
  o0 : f0.offset = 0
  o1 : f1.offset = 1
  o2 : f2.offset = 2
  t0 : f0.type = tb
  t1 : f1.type = tb
  t2 : f2.type = tb
  sl : P.underlying tb = some (.slice te)
  el : P.underlying te = some .bool
  cb : P.cellsOf tb = 1
  ce : P.cellsOf te = 1
  ct : P.cellsOf ts = 3
  by_ : 0 < P.bytesOf te
theorem arg_state {ts tb te : TypeId} {f0 f1 f2 : Field} (T : StateT P ts tb te f0 f1 f2) {r : Reach} {b0 m : Nat} {v : Value} {d : DataW H} {ps : List MemPlace} (hval : Value.okWide P w r b0 ts v) (h : DataW.Trod enc P w base sp hd ts v d ps) (hw : ∀ k, k ∈ d.weights P ts → k ≤ m) :
    ∃ (q mm e : List Bool) (A B C : Option Addr) (a b c : Nat), v = .agg #[.slice A q.length a, .slice B mm.length b, .slice C e.length c] ∧ (rd kBool A a q).ok (fun k => k < w.heap.size) w ∧ (rd kBool B b mm).ok (fun k => k < w.heap.size) w ∧ (rd kBool C c e).ok (fun k => k < w.heap.size) w ∧ q.length ≤ m ∧ mm.length ≤ m ∧ e.length ≤ m := by
  obtain ⟨vs, rfl, _⟩ : ∃ cs, v = .agg cs ∧ cs.size = P.cellsOf ts ∧ Row.okWide P w r b0 ts cs := by
    unfold Value.okWide at hval
    rw [T.st] at hval
    exact hval
  obtain ⟨fuel, hf⟩ := h
  obtain ⟨xs, n, rfl, hx, hl, hxl, hg⟩ := DataW.trod_struct T.st hf
  rw [T.ct] at hl
  obtain ⟨x, y, z, hvs⟩ := len3 hl
  have hvs' : vs.toList = [x, y, z] := hvs
  rw [hvs] at hg
  have hx3 : xs.length = 3 := by simpa using hxl
  have g0 := hg 0 f0 rfl
  have g1 := hg 1 f1 rfl
  have g2 := hg 2 f2 rfl
  rw [List.getElem?_eq_getElem (by omega), T.t0, T.cb, T.o0] at g0
  rw [List.getElem?_eq_getElem (by omega), T.t1, T.cb, T.o1] at g1
  rw [List.getElem?_eq_getElem (by omega), T.t2, T.cb, T.o2] at g2
  obtain ⟨A, a, q, hq, rq⟩ := open_slice kBool T.sl T.ce (by decide) (open_boolEl T.el) g0
  obtain ⟨B, b, mm, hm, rm⟩ := open_slice kBool T.sl T.ce (by decide) (open_boolEl T.el) g1
  obtain ⟨C, c, e, he, re⟩ := open_slice kBool T.sl T.ce (by decide) (open_boolEl T.el) g2
  have hd3 : d = .agg [xs[0].1, xs[1].1, xs[2].1] := by
    injection hx with hx _
    rw [hx]
    match xs, hx3 with
    | [u, v, w], _ => rfl
  have hwt : ∀ k, (k ∈ xs[0].1.weights P tb ∨ k ∈ xs[1].1.weights P tb ∨ k ∈ xs[2].1.weights P tb) → k ≤ m := by
    intro k hk
    refine hw k ?_
    rw [hd3]
    simp only [DataW.weights, T.st]
    simp only [List.map_cons, List.map_nil, DataW.weightsEach, T.t0, T.t1, T.t2, List.mem_append, List.append_nil]
    exact hk
  rw [hq] at g0
  rw [hm] at g1
  rw [he] at g2
  have w0 := slice_weight T.sl g0 (fun k hk => hwt k (.inl hk)) T.by_
  have w1 := slice_weight T.sl g1 (fun k hk => hwt k (.inr (.inl hk))) T.by_
  have w2 := slice_weight T.sl g2 (fun k hk => hwt k (.inr (.inr hk))) T.by_
  have e0 : x = .slice A q.length a := by simpa using hq
  have e1 : y = .slice B mm.length b := by simpa using hm
  have e2 : z = .slice C e.length c := by simpa using he
  refine ⟨q, mm, e, A, B, C, a, b, c, ?_, rq, rm, re, w0, w1, w2⟩
  rw [← e0, ← e1, ← e2, ← hvs']
/-- A table of numbers in one row. -/
theorem cells_of_row {fuel : Nat} {t i : TypeId} {n : Nat} {k : IntKind} {cs : List Value} {row : List Int} {p : List MemPlace} (ht : P.underlying t = some (.array n i)) (hi : P.underlying i = some (.int k)) (hci : P.cellsOf i = 1) (hct : P.cellsOf t = n)
    (h : DataW.trod enc P w base sp hd fuel t cs = some (Lib.tabData k row, p)) : cs = row.map fun z => Value.int k z := Lib.cells_of_tab ht hi hci hct h
theorem laid_tab {W : World} {laid : List (String × DataW Unit)} (hno : laid.filter (fun x => x.2.handleName?.isSome) = []) (h : laidMetH P laid W) {name : String} {dat : DataW Unit} (row : List Int) (hmem : (name, dat) ∈ laid) (hdat : dat = Lib.tabData .i64 row) {g n : Nat} {t i : TypeId} (hg : P.globalNamed name = some g) (htp : (P.globals[g]?).map (·.type) = some t)
    (ht : P.underlying t = some (.array n i)) (hi : P.underlying i = some (.int .i64)) (hci : P.cellsOf i = 1) (hct : P.cellsOf t = n) : (cellsAt ⟨g, 0, none⟩ (row.map (Value.int .i64))).ok (fun k => k < W.heap.size) W := by
  obtain ⟨g', t', cs, fuel, p, h1, h2, h3, h4⟩ := laidH_at hno h name dat hmem
  obtain rfl := Option.some.inj (hg.symm.trans h1)
  obtain rfl := Option.some.inj (htp.symm.trans h2)
  rw [hdat] at h4
  have e := cells_of_row ht hi hci hct h4
  refine ⟨var_lt hg h3, fun i u hu => ?_⟩
  have hc := World.var?_cell hg h3 i
  rw [add_plain, Nat.zero_add, hc, ← Array.getElem?_toList, e]
  exact hu
theorem laid_tab32 {W : World} {laid : List (String × DataW Unit)} (hno : laid.filter (fun x => x.2.handleName?.isSome) = []) (h : laidMetH P laid W) {name : String} {dat : DataW Unit} (a b c d e' f : Int) (hmem : (name, dat) ∈ laid) (hdat : dat = .agg ([[a, b], [c, d], [e', f]].map (Lib.tabData .i64))) {g : Nat} {t u i : TypeId} (hg : P.globalNamed name = some g) (htp : (P.globals[g]?).map (·.type) = some t)
    (ht : P.underlying t = some (.array 3 u)) (hu : P.underlying u = some (.array 2 i)) (hi : P.underlying i = some (.int .i64)) (hci : P.cellsOf i = 1) (hcu : P.cellsOf u = 2) (hct : P.cellsOf t = 3 * 2) : (cellsAt ⟨g, 0, none⟩ ([a, b, c, d, e', f].map (Value.int .i64))).ok (fun k => k < W.heap.size) W := by
  obtain ⟨g', t', cs, fuel, p, h1, h2, h3, h4⟩ := laidH_at hno h name dat hmem
  obtain rfl := Option.some.inj (hg.symm.trans h1)
  obtain rfl := Option.some.inj (htp.symm.trans h2)
  rw [hdat] at h4
  obtain ⟨hl, hr⟩ := rows_of_tab (rows := [[a, b], [c, d], [e', f]]) ht hu hi hci hcu hct rfl h4
  have e : cs.toList = [a, b, c, d, e', f].map (Value.int .i64) := by
    have r0 := hr 0 (by simp)
    have r1 := hr 1 (by simp)
    have r2 := hr 2 (by simp)
    generalize cs.toList = l at *
    match l, hl with
    | [x0, x1, x2, x3, x4, x5], _ => simp_all
  refine ⟨var_lt hg h3, fun i u hu => ?_⟩
  have hc := World.var?_cell hg h3 i
  rw [add_plain, Nat.zero_add, hc, ← Array.getElem?_toList, e]
  exact hu
end
end Go.Proofs.YtolggjmgfijjfaaGreatDoor.Sep

/- The shelf's contracts of slices.SortFunc and strconv.Itoa, laid over this program: tables of numbers. -/
namespace Go.Proofs.YtolggjmgfijjfaaGreatDoor.Sep
open Go Go.Proofs
def zsort_ren : Go.Shelf.Ren := ⟨fun | 6 => 45 | 15 => 80 | 14 => 79 | 28 => 112 | 29 => 113 | 20 => 104 | 21 => 105 | 22 => 106 | 23 => 107 | 24 => 108 | 25 => 109 | 26 => 110 | 27 => 111 | 46 => 125 | 47 => 126 | 48 => 127 | 49 => 128 | 50 => 129 | 57 => 132 | n => n, fun | 22 => 31 | 24 => 33 | 25 => 117 | 3 => 3 | 39 => 148 | 0 => 0 | 53 => 175 | 55 => 177 | 4 => 4 | 46 => 168 | 45 => 167 | 50 => 172 | 5 => 5 | 9 => 9 | 66 => 187 | 70 => 191 | 76 => 195 | 77 => 196 | n => n, fun | n => n⟩
theorem zsort : SlLaysF0.n6 Tryz.prog zsort_ren := {
  mixed := (by kernel_rfl),
  f6 := ⟨Tryz.f45.name, by decide, Tryz.func45.trans (congrArg some (by kernel_rfl))⟩,
  f14 := ⟨Tryz.f79.name, by decide, Tryz.func79.trans (congrArg some (by kernel_rfl))⟩,
  f15 := Tryz.func80.trans (congrArg some (by kernel_rfl)),
  f20 := ⟨Tryz.f104.name, by decide, Tryz.func104.trans (congrArg some (by kernel_rfl))⟩,
  f21 := ⟨Tryz.f105.name, by decide, Tryz.func105.trans (congrArg some (by kernel_rfl))⟩,
  f22 := ⟨Tryz.f106.name, by decide, Tryz.func106.trans (congrArg some (by kernel_rfl))⟩,
  f23 := ⟨Tryz.f107.name, by decide, Tryz.func107.trans (congrArg some (by kernel_rfl))⟩,
  f24 := ⟨Tryz.f108.name, by decide, Tryz.func108.trans (congrArg some (by kernel_rfl))⟩,
  f25 := ⟨Tryz.f109.name, by decide, Tryz.func109.trans (congrArg some (by kernel_rfl))⟩,
  f26 := ⟨Tryz.f110.name, by decide, Tryz.func110.trans (congrArg some (by kernel_rfl))⟩,
  f27 := ⟨Tryz.f111.name, by decide, Tryz.func111.trans (congrArg some (by kernel_rfl))⟩,
  f28 := Tryz.func112.trans (congrArg some (by kernel_rfl)),
  f29 := Tryz.func113.trans (congrArg some (by kernel_rfl)),
  f46 := ⟨Tryz.f125.name, by decide, Tryz.func125.trans (congrArg some (by kernel_rfl))⟩,
  f47 := Tryz.func126.trans (congrArg some (by kernel_rfl)),
  f48 := Tryz.func127.trans (congrArg some (by kernel_rfl)),
  f49 := ⟨Tryz.f128.name, by decide, Tryz.func128.trans (congrArg some (by kernel_rfl))⟩,
  f50 := ⟨Tryz.f129.name, by decide, Tryz.func129.trans (congrArg some (by kernel_rfl))⟩,
  f57 := ⟨Tryz.f132.name, by decide, Tryz.func132.trans (congrArg some (by kernel_rfl))⟩,
  t0 := Tryz.underlying0,
  a0 := Tryz.isAgg0,
  z0 := Tryz.sizeOf0,
  v0 := Tryz.zeroValue0,
  t3 := Tryz.underlying3,
  a3 := Tryz.isAgg3,
  z3 := Tryz.sizeOf3,
  v3 := Tryz.zeroValue3,
  t4 := Tryz.underlying4,
  a4 := Tryz.isAgg4,
  z4 := Tryz.sizeOf4,
  v4 := Tryz.zeroValue4,
  t5 := Tryz.underlying5,
  a5 := Tryz.isAgg5,
  z5 := Tryz.sizeOf5,
  v5 := Tryz.zeroValue5,
  t9 := Tryz.underlying9,
  a9 := Tryz.isAgg9,
  z9 := Tryz.sizeOf9,
  v9 := Tryz.zeroValue9,
  t22 := Tryz.underlying31,
  a22 := Tryz.isAgg31,
  z22 := Tryz.sizeOf31,
  v22 := Tryz.zeroValue31,
  t25 := Tryz.underlying117,
  a25 := Tryz.isAgg117,
  z25 := Tryz.sizeOf117,
  v25 := Tryz.zeroValue117,
  t39 := Tryz.underlying148,
  a39 := Tryz.isAgg148,
  z39 := Tryz.sizeOf148,
  v39 := Tryz.zeroValue148,
  t45 := Tryz.underlying167,
  a45 := Tryz.isAgg167,
  z45 := Tryz.sizeOf167,
  v45 := Tryz.zeroValue167,
  t46 := Tryz.underlying168,
  a46 := Tryz.isAgg168,
  z46 := Tryz.sizeOf168,
  v46 := Tryz.zeroValue168,
  t50 := Tryz.underlying172,
  a50 := Tryz.isAgg172,
  z50 := Tryz.sizeOf172,
  v50 := Tryz.zeroValue172,
  t53 := Tryz.underlying175,
  a53 := Tryz.isAgg175,
  z53 := Tryz.sizeOf175,
  v53 := Tryz.zeroValue175,
  t55 := Tryz.underlying177,
  a55 := Tryz.isAgg177,
  z55 := Tryz.sizeOf177,
  v55 := Tryz.zeroValue177,
  t66 := Tryz.underlying187,
  a66 := Tryz.isAgg187,
  z66 := Tryz.sizeOf187,
  v66 := Tryz.zeroValue187,
  t70 := Tryz.underlying191,
  a70 := Tryz.isAgg191,
  z70 := Tryz.sizeOf191,
  v70 := Tryz.zeroValue191,
  t76 := Tryz.underlying195,
  a76 := Tryz.isAgg195,
  z76 := Tryz.sizeOf195,
  v76 := Tryz.zeroValue195,
  t77 := Tryz.underlying196,
  a77 := Tryz.isAgg196,
  z77 := Tryz.sizeOf196,
  v77 := Tryz.zeroValue196 }
end Go.Proofs.YtolggjmgfijjfaaGreatDoor.Sep
