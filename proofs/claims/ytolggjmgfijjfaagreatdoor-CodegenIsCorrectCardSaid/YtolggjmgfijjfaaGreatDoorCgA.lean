/- Texts of this proof, joined: what is of no program, and the walks of its functions -/
import Derived.WalkKit
import Derived.Orders
import Derived.OrdersHeld
import Derived.Laws.AppendOwn
import Derived.Laws.Slices
import Derived.Laws.Concat
import Derived.Laws.Strings
import Derived.Maps.AppendAt
import Derived.Laws.MakeOwn
import Derived.MapKept
import Derived.Great.BuildSlice
import Derived.Laws.Rows
import Derived.Laws.StructEq
set_option autoImplicit false
set_option linter.unusedVariables false
set_option linter.unusedSimpArgs false
set_option linter.unusedSectionVars false
set_option maxRecDepth 100000
/- A small separation logic over the model's weakest preconditions: facts on memory that own blocks, frames as lists of slots, and the rules by which a walk steps. Nothing here speaks of a program. -/
namespace Go.Proofs.YtolggjmgfijjfaaGreatDoor.Sep
open Go

/-- What is known of memory: it holds at a world and a set of settled blocks; it owns some blocks. -/
structure Fact where
  own : Nat → Prop
  ok : (Nat → Prop) → World → Prop
  lt : ∀ S w k, ok S w → own k → k < w.heap.size
  stable : ∀ S S' w w', ok S w → (∀ k, S k → S' k) → (∀ k, own k ∨ S k → w'.heap[k]? = w.heap[k]?) → ok S' w'

def Own (Γ : List Fact) (k : Nat) : Prop := ∃ F, F ∈ Γ ∧ F.own k

/-- What a function found when it began: the world, the settled blocks, the blocks that it was handed. -/
structure Ctx where
  w0 : World
  S0 : Nat → Prop
  O : Nat → Prop
  mono : Prop

structure Hold (G : Ctx) (Γ : List Fact) (S : Nat → Prop) (w : World) : Prop where
  facts : ∀ F, F ∈ Γ → F.ok S w
  sep : Γ.Pairwise fun F F' => ∀ k, F.own k → F'.own k → False
  fresh : ∀ F, F ∈ Γ → ∀ k, F.own k → ¬ S k ∧ (G.O k ∨ G.w0.heap.size ≤ k)
  sub : ∀ k, S k → k < w.heap.size
  grow : ∀ k, G.S0 k → S k
  only : ∀ k, S k → G.S0 k ∨ G.O k ∨ G.w0.heap.size ≤ k
  kept : ∀ k, k < G.w0.heap.size → ¬ G.O k → w.heap[k]? = G.w0.heap[k]?
  size : G.w0.heap.size ≤ w.heap.size
  os : w.os = G.w0.os
  tape : w.tape = G.w0.tape
  output : w.output = G.w0.output
  drawn : G.mono → G.w0.drawn ≤ w.drawn

def Start (Γ : List Fact) (S : Nat → Prop) (w : World) : Prop := Hold ⟨w, S, Own Γ, True⟩ Γ S w

theorem Hold.any {μ : Prop} {w0 w : World} {S0 S : Nat → Prop} {O : Nat → Prop} {Γ : List Fact} (h : Hold ⟨w0, S0, O, True⟩ Γ S w) : Hold ⟨w0, S0, O, μ⟩ Γ S w :=
  ⟨h.facts, h.sep, h.fresh, h.sub, h.grow, h.only, h.kept, h.size, h.os, h.tape, h.output, fun _ => h.drawn trivial⟩
/-- A world that differs in the draws alone. -/
theorem Hold.draw {G : Ctx} {Γ : List Fact} {S : Nat → Prop} {w : World} (h : Hold G Γ S w) (n : Nat) (hn : w.drawn ≤ n) : Hold G Γ S { w with drawn := n } :=
  ⟨fun F hF => F.stable S S w _ (h.facts F hF) (fun _ h => h) (fun _ _ => rfl), h.sep, h.fresh, h.sub, h.grow, h.only, h.kept, h.size, h.os, h.tape, h.output, fun hm => Nat.le_trans (h.drawn hm) hn⟩

def takeAt : Nat → List Fact → Option (Fact × List Fact)
  | _, [] => none
  | 0, F :: Γ => some (F, Γ)
  | n + 1, F :: Γ => match takeAt n Γ with
    | some (X, R) => some (X, F :: R)
    | none => none

theorem takeAt_perm : ∀ (n : Nat) (Γ : List Fact) (F : Fact) (R : List Fact), takeAt n Γ = some (F, R) → Γ.Perm (F :: R)
  | _, [], _, _, h => by simp [takeAt] at h
  | 0, X :: Γ, F, R, h => by simp [takeAt] at h; obtain ⟨rfl, rfl⟩ := h; exact List.Perm.refl _
  | n + 1, X :: Γ, F, R, h => by
    simp only [takeAt] at h
    split at h
    · rename_i Y R' hr
      injection h with h
      injection h with h1 h2
      subst h1 h2
      exact ((takeAt_perm n Γ Y R' hr).cons X).trans (List.Perm.swap _ _ _)
    · cases h

/-- Some facts are handed on ('take': they are away; 'use': they own nothing and stay). -/
inductive Sel : List Fact → List Fact → List Fact → Prop
  | nil {Γ : List Fact} : Sel Γ [] Γ
  | use {Γ Γp Γr : List Fact} {F : Fact} (i : Nat) (h : Γ[i]? = some F) (hp : ∀ k, ¬ F.own k) (r : Sel Γ Γp Γr) : Sel Γ (F :: Γp) Γr
  | take {Γ Γ' Γp Γr : List Fact} {F : Fact} (i : Nat) (h : takeAt i Γ = some (F, Γ')) (r : Sel Γ' Γp Γr) : Sel Γ (F :: Γp) Γr
theorem Sel.u {Γ Γp Γr : List Fact} {F : Fact} (i : Nat) (h : Γ[i]? = some F) (r : Sel Γ Γp Γr) (hp : ∀ k, ¬ F.own k := by exact fun _ h => h) : Sel Γ (F :: Γp) Γr := .use i h hp r

def Apart (F F' : Fact) : Prop := ∀ k, F.own k → F'.own k → False

theorem pairwise_perm {Γ Γ' : List Fact} (hp : Γ.Perm Γ') (h : Γ.Pairwise Apart) : Γ'.Pairwise Apart :=
  (hp.pairwise_iff (fun {x y} (hxy : Apart x y) k h1 h2 => hxy k h2 h1)).1 h

theorem Sel.mem {Γ Γp Γr : List Fact} (s : Sel Γ Γp Γr) : (∀ F, F ∈ Γp → F ∈ Γ) ∧ (∀ F, F ∈ Γr → F ∈ Γ) := by
  induction s with
  | nil => exact ⟨fun F h => (by cases h), fun F h => h⟩
  | use i h hp r ih =>
    refine ⟨fun X hX => ?_, ih.2⟩
    rcases List.mem_cons.1 hX with rfl | hX
    · exact List.mem_of_getElem? h
    · exact ih.1 X hX
  | take i h r ih =>
    have hp := takeAt_perm _ _ _ _ h
    refine ⟨fun X hX => hp.mem_iff.2 ?_, fun X hX => hp.mem_iff.2 (List.mem_cons_of_mem _ (ih.2 X hX))⟩
    rcases List.mem_cons.1 hX with rfl | hX
    · exact List.mem_cons_self
    · exact List.mem_cons_of_mem _ (ih.1 X hX)

theorem Sel.sep {Γ Γp Γr : List Fact} (s : Sel Γ Γp Γr) : Γ.Pairwise Apart → Γp.Pairwise Apart ∧ Γr.Pairwise Apart ∧ ∀ F, F ∈ Γp → ∀ F', F' ∈ Γr → Apart F F' := by
  induction s with
  | nil => exact fun h => ⟨List.Pairwise.nil, h, fun F h => (by cases h)⟩
  | use i h hp r ih =>
    intro hh
    obtain ⟨h1, h2, h3⟩ := ih hh
    refine ⟨List.pairwise_cons.2 ⟨fun X _ k hk => absurd hk (hp k), h1⟩, h2, fun X hX Y hY => ?_⟩
    rcases List.mem_cons.1 hX with rfl | hX
    · exact fun k hk => absurd hk (hp k)
    · exact h3 X hX Y hY
  | take i h r ih =>
    intro hh
    have hp := pairwise_perm (takeAt_perm _ _ _ _ h) hh
    obtain ⟨ha, hb⟩ := List.pairwise_cons.1 hp
    obtain ⟨h1, h2, h3⟩ := ih hb
    refine ⟨List.pairwise_cons.2 ⟨fun X hX => ha X (r.mem.1 X hX), h1⟩, h2, fun X hX Y hY => ?_⟩
    rcases List.mem_cons.1 hX with rfl | hX
    · exact ha Y (r.mem.2 Y hY)
    · exact h3 X hX Y hY

theorem Hold.start {G : Ctx} {Γ Γp Γr : List Fact} {S : Nat → Prop} {w : World} (h : Hold G Γ S w) (s : Sel Γ Γp Γr) : Start Γp S w :=
  ⟨fun F hF => h.facts F (s.mem.1 F hF), (s.sep h.sep).1, fun F hF k hk => ⟨(h.fresh F (s.mem.1 F hF) k hk).1, .inl ⟨F, hF, hk⟩⟩, h.sub, fun _ h => h, fun _ h => .inl h, fun _ _ _ => rfl, Nat.le_refl _, rfl, rfl, rfl, fun _ => Nat.le_refl _⟩

/-- THE FRAME RULE: what was handed on has become Δ; the rest stands. -/
theorem Hold.step {G : Ctx} {Γ Γp Γr Δ : List Fact} {S S' : Nat → Prop} {w w' : World} {μ : Prop} (h : Hold G Γ S w) (s : Sel Γ Γp Γr) (d : Hold ⟨w, S, Own Γp, μ⟩ Δ S' w') (hμ : G.mono → μ) : Hold G (Δ ++ Γr) S' w' := by
  obtain ⟨sp, sr, spr⟩ := s.sep h.sep
  have away : ∀ F, F ∈ Γr → ∀ k, F.own k → k < w.heap.size ∧ ¬ Own Γp k := fun F hF k hk =>
    ⟨F.lt S w k (h.facts F (s.mem.2 F hF)) hk, fun ⟨F', hF', hk'⟩ => spr F' hF' F hF k hk' hk⟩
  have settled : ∀ k, S k → k < w.heap.size ∧ ¬ Own Γp k := fun k hk => ⟨h.sub k hk, fun ⟨F', hF', hk'⟩ => (h.fresh F' (s.mem.1 F' hF') k hk').1 hk⟩
  have notS' : ∀ F, F ∈ Γr → ∀ k, F.own k → ¬ S' k := fun F hF k hk hs => by
    rcases d.only k hs with h1 | h1 | h1
    · exact (h.fresh F (s.mem.2 F hF) k hk).1 h1
    · exact (away F hF k hk).2 h1
    · exact absurd (away F hF k hk).1 (Nat.not_lt.2 h1)
  have src : ∀ k, Own Γp k → G.O k ∨ G.w0.heap.size ≤ k := fun k ⟨F, hF, hk⟩ => (h.fresh F (s.mem.1 F hF) k hk).2
  refine ⟨fun F hF => ?_, ?_, fun F hF k hk => ?_, d.sub, fun k hk => d.grow k (h.grow k hk), fun k hk => ?_, fun k hk ho => ?_, Nat.le_trans h.size d.size, d.os.trans h.os, d.tape.trans h.tape, d.output.trans h.output, fun hm => Nat.le_trans (h.drawn hm) (d.drawn (hμ hm))⟩
  · rcases List.mem_append.1 hF with hF | hF
    · exact d.facts F hF
    · refine F.stable S S' w w' (h.facts F (s.mem.2 F hF)) d.grow (fun k hk => ?_)
      rcases hk with hk | hk
      · exact d.kept k (away F hF k hk).1 (away F hF k hk).2
      · exact d.kept k (settled k hk).1 (settled k hk).2
  · refine List.pairwise_append.2 ⟨d.sep, sr, fun X hX Y hY k h1 h2 => ?_⟩
    rcases (d.fresh X hX k h1).2 with h3 | h3
    · exact (away Y hY k h2).2 h3
    · exact absurd (away Y hY k h2).1 (Nat.not_lt.2 h3)
  · rcases List.mem_append.1 hF with hF | hF
    · refine ⟨(d.fresh F hF k hk).1, ?_⟩
      rcases (d.fresh F hF k hk).2 with h3 | h3
      · exact src k h3
      · exact .inr (Nat.le_trans h.size h3)
    · exact ⟨notS' F hF k hk, (h.fresh F (s.mem.2 F hF) k hk).2⟩
  · rcases d.only k hk with h1 | h1 | h1
    · exact h.only k h1
    · exact .inr (src k h1)
    · exact .inr (.inr (Nat.le_trans h.size h1))
  · refine (d.kept k (Nat.lt_of_lt_of_le hk h.size) (fun ho' => ?_)).trans (h.kept k hk ho)
    rcases src k ho' with h1 | h1
    · exact ho h1
    · exact absurd hk (Nat.not_lt.2 h1)

/-- Fewer facts. -/
theorem Hold.sub_sel {G : Ctx} {Γ Γp Γr : List Fact} {S : Nat → Prop} {w : World} (h : Hold G Γ S w) (s : Sel Γ Γp Γr) : Hold G Γp S w :=
  ⟨fun F hF => h.facts F (s.mem.1 F hF), (s.sep h.sep).1, fun F hF => h.fresh F (s.mem.1 F hF), h.sub, h.grow, h.only, h.kept, h.size, h.os, h.tape, h.output, h.drawn⟩

/-! ### The frame -/
def look : List (Nat × Value) → Nat → Option Value
  | [], _ => none
  | (k, v) :: r, j => match Nat.beq k j with
    | true => some v
    | false => look r j

structure Fr (n : Nat) (D : List Deferred) (a : Act) (L : List (Nat × Value)) : Prop where
  defers : a.defers = D
  size : a.tmps.size = n
  slots : ∀ j v, look L j = some v → a.tmps[j]? = some v

def ev (L : List (Nat × Value)) : Operand → Option Value
  | .tmp t => look L t
  | .const v => some v
  | .global g => some (.pointer (some ⟨g, 0, none⟩))
  | .func f => some (.func (.func f) #[] #[])

theorem Fr.eval {n : Nat} {D : List Deferred} {a : Act} {L : List (Nat × Value)} (h : Fr n D a L) {x : Operand} {v : Value} (hv : ev L x = some v) : a.eval x = v := by
  cases x with
  | tmp t => simp [Act.eval, Array.getD_eq_getD_getElem?, h.slots t v hv]
  | const c => simpa [ev, Act.eval] using hv
  | global g => simpa [ev, Act.eval] using hv
  | func f => simpa [ev, Act.eval] using hv

theorem Fr.put {n : Nat} {D : List Deferred} {a : Act} {L : List (Nat × Value)} (h : Fr n D a L) {d : Nat} (hd : Nat.blt d n = true) (v : Value) : Fr n D (a.put (some d) v) ((d, v) :: L) := by
  have hd' : d < a.tmps.size := by rw [h.size]; simpa [Nat.blt_eq] using hd
  refine ⟨h.defers, by simp [Act.put, h.size], fun j u hj => ?_⟩
  simp only [look] at hj
  split at hj
  · rename_i hb
    have : d = j := Nat.eq_of_beq_eq_true hb
    subst this
    injection hj with hj
    subst hj
    simp [Act.put, hd']
  · rename_i hb
    have hne : d ≠ j := Nat.ne_of_beq_eq_false hb
    simp only [Act.put, Array.getElem?_setIfInBounds, if_neg hne]
    exact h.slots j u hj

/-- What a step leaves in its slot, if it has one. -/
def putL (d : Option Nat) (v : Value) (L : List (Nat × Value)) : List (Nat × Value) := match d with
  | some d => (d, v) :: L
  | none => L
def fits (d : Option Nat) (n : Nat) : Bool := match d with
  | some d => Nat.blt d n
  | none => true
theorem Fr.putO {n : Nat} {D : List Deferred} {a : Act} {L : List (Nat × Value)} (h : Fr n D a L) {d : Option Nat} (hd : fits d n = true) (v : Value) : Fr n D (a.put d v) (putL d v L) := by
  cases d with
  | none => exact h
  | some d => exact h.put hd v

def Lsub : List (Nat × Value) → List (Nat × Value) → Prop
  | [], _ => True
  | (j, v) :: r, L => look L j = some v ∧ Lsub r L
theorem Lsub.look {L' L : List (Nat × Value)} (h : Lsub L' L) : ∀ j v, look L' j = some v → look L j = some v := by
  induction L' with
  | nil => intro j v hj; cases hj
  | cons p r ih =>
    obtain ⟨k, u⟩ := p
    intro j v hj
    simp only [Sep.look] at hj
    split at hj
    · rename_i hb
      have : k = j := Nat.eq_of_beq_eq_true hb
      subst this
      injection hj with hj
      subst hj
      exact h.1
    · exact ih h.2 j v hj
theorem Fr.sub {n : Nat} {D : List Deferred} {a : Act} {L L' : List (Nat × Value)} (h : Fr n D a L) (hs : Lsub L' L) : Fr n D a L' :=
  ⟨h.defers, h.size, fun j v hj => h.slots j v (hs.look j v hj)⟩

/-! ### Judgements -/
section
variable (P : Program) (ops : Array Oper) (Q : Exit → Act → World → Prop) (G : Ctx) (n : Nat) (D : List Deferred)
/-- The operations of a region, from here on. -/
def WL (l : List Oper) (L : List (Nat × Value)) (Γ : List Fact) : Prop := ∀ a w S, Fr n D a L → Hold G Γ S w → wpList P ops Q l a w
/-- A piece of code. -/
def WC (c : Code) (L : List (Nat × Value)) (Γ : List Fact) : Prop := ∀ a w S, Fr n D a L → Hold G Γ S w → c.wp P Q a w
/-- A way out. -/
def WX (e : Exit) (L : List (Nat × Value)) (Γ : List Fact) : Prop := ∀ a w S, Fr n D a L → Hold G Γ S w → Q e a w
/-- A value that is reckoned (or read) without a change. -/
def Qt (o : Oper) (L : List (Nat × Value)) (Γ : List Fact) (v : Value) : Prop := ∀ a w S, Fr n D a L → Hold G Γ S w → (execOp a.eval o).run P w = .ok (.value v) w
end

/-- A function's contract: handed facts Γ it returns v and facts Γ' as R says; whatever it was not handed stands. -/
def Spec (μ : Prop) (P : Program) (f : FuncId) (args : Array Value) (Γ : List Fact) (R : Value → List Fact → Prop) : Prop :=
  ∀ w S, Start Γ S w → Calls P f args w fun e w' => ∃ v Γ' S', e = .returned v ∧ R v Γ' ∧ Hold ⟨w, S, Own Γ, μ⟩ Γ' S' w'

/-- Handed more, it leaves the rest alone. -/
theorem Spec.less {μ : Prop} {P : Program} {f : FuncId} {args : Array Value} {Γ Γ' Γr : List Fact} {R : Value → List Fact → Prop} (s : Sel Γ' Γ Γr) (h : Spec μ P f args Γ R) : Spec μ P f args Γ' R := by
  intro w S hs
  have ho : ∀ k, Own Γ k → Own Γ' k := fun k ⟨F, hF, hk⟩ => ⟨F, s.mem.1 F hF, hk⟩
  refine (h w S (hs.start s)).mono fun e w' ⟨v, Δ, S', he, hR, d⟩ => ⟨v, Δ, S', he, hR, ?_⟩
  exact ⟨d.facts, d.sep, fun F hF k hk => ⟨(d.fresh F hF k hk).1, (d.fresh F hF k hk).2.imp (ho k) id⟩, d.sub, d.grow, fun k hk => (d.only k hk).imp id (Or.imp (ho k) id), fun k hk hn => d.kept k hk fun h => hn (ho k h), d.size, d.os, d.tape, d.output, d.drawn⟩

/-- An operation that changes memory, on what it was handed. -/
def OpSpec (P : Program) (s : Sem Next) (Γ : List Fact) (R : Value → List Fact → Prop) : Prop :=
  ∀ w S, Start Γ S w → ∃ v w' Γ' S', (s.run P w = .ok (.value v) w' ∨ (s.run P w = .ok .skip w' ∧ v = undef)) ∧ R v Γ' ∧ Hold ⟨w, S, Own Γ, True⟩ Γ' S' w'

/-- An operation that changes memory, at whatever frame has these slots. -/
def Ld (P : Program) (n : Nat) (D : List Deferred) (o : Oper) (L : List (Nat × Value)) (Γ : List Fact) (R : Value → List Fact → Prop) : Prop := ∀ a, Fr n D a L → OpSpec P (execOp a.eval o) Γ R
/-- An operation that calls f. -/
def Cl (P : Program) (n : Nat) (D : List Deferred) (o : Oper) (L : List (Nat × Value)) (f : FuncId) (args : Array Value) : Prop := ∀ a w, Fr n D a L → (execOp a.eval o).run P w = .ok (.enter f args) w

theorem Spec.mono {μ : Prop} {P : Program} {f : FuncId} {args : Array Value} {Γ : List Fact} {R R' : Value → List Fact → Prop} (h : Spec μ P f args Γ R) (hr : ∀ v Δ, R v Δ → R' v Δ) : Spec μ P f args Γ R' :=
  fun w S hs => (h w S hs).mono fun e w' ⟨v, Γ', S', he, hR, hh⟩ => ⟨v, Γ', S', he, hr _ _ hR, hh⟩

section
variable {P : Program} {ops : Array Oper} {Q : Exit → Act → World → Prop} {G : Ctx} {n : Nat} {D : List Deferred} {L L' : List (Nat × Value)} {Γ Γ' : List Fact} {rest : List Oper} {o : Oper}

/-! ### Rules on facts, at any time -/
/-- What a fact says is learnt: plain knowledge, and facts that own nothing. -/
theorem WL.learn {l : List Oper} {Z : Type} {φ : Z → Prop} {Δ : Z → List Fact} {F : Fact} (i : Nat) (hF : Γ[i]? = some F) (h : ∀ S w, F.ok S w → ∃ z, φ z ∧ ∀ X, X ∈ Δ z → X.ok S w ∧ ∀ k, ¬ X.own k)
    (k : ∀ z, φ z → WL P ops Q G n D l L (Δ z ++ Γ)) : WL P ops Q G n D l L Γ := by
  intro a w S hf hh
  obtain ⟨z, hz, hd⟩ := h S w (hh.facts F (List.mem_of_getElem? hF))
  refine k z hz a w S hf ⟨fun X hX => ?_, ?_, fun X hX k' hk => ?_, hh.sub, hh.grow, hh.only, hh.kept, hh.size, hh.os, hh.tape, hh.output, hh.drawn⟩
  · rcases List.mem_append.1 hX with hX | hX
    · exact (hd X hX).1
    · exact hh.facts X hX
  · refine List.pairwise_append.2 ⟨?_, hh.sep, fun X hX Y _ k' h1 => absurd h1 ((hd X hX).2 k')⟩
    generalize Δ z = l at hd
    induction l with
    | nil => exact .nil
    | cons X r ih => exact List.pairwise_cons.2 ⟨fun Y _ k' h1 => absurd h1 ((hd X List.mem_cons_self).2 k'), ih fun Y hY => hd Y (List.mem_cons_of_mem _ hY)⟩
  · rcases List.mem_append.1 hX with hX | hX
    · exact absurd hk ((hd X hX).2 k')
    · exact hh.fresh X hX k' hk
/-- Facts turned into others, nothing being done. -/
theorem WL.turn {l : List Oper} {Γp Γr : List Fact} {R : List Fact → Prop} (s : Sel Γ Γp Γr) (h : ∀ S w, Start Γp S w → ∃ Δ S', R Δ ∧ Hold ⟨w, S, Own Γp, True⟩ Δ S' w)
    (k : ∀ Δ, R Δ → WL P ops Q G n D l L (Δ ++ Γr)) : WL P ops Q G n D l L Γ := by
  intro a w S hf hh
  obtain ⟨Δ, S', hR, hd⟩ := h S w (hh.start s)
  exact k Δ hR a w S' hf (hh.step s hd fun _ => trivial)
theorem WC.learn {c : Code} {Z : Type} {φ : Z → Prop} {Δ : Z → List Fact} {F : Fact} (i : Nat) (hF : Γ[i]? = some F) (h : ∀ S w, F.ok S w → ∃ z, φ z ∧ ∀ X, X ∈ Δ z → X.ok S w ∧ ∀ k, ¬ X.own k)
    (k : ∀ z, φ z → WC P Q G n D c L (Δ z ++ Γ)) : WC P Q G n D c L Γ := by
  intro a w S hf hh
  obtain ⟨z, hz, hd⟩ := h S w (hh.facts F (List.mem_of_getElem? hF))
  refine k z hz a w S hf ⟨fun X hX => ?_, ?_, fun X hX k' hk => ?_, hh.sub, hh.grow, hh.only, hh.kept, hh.size, hh.os, hh.tape, hh.output, hh.drawn⟩
  · rcases List.mem_append.1 hX with hX | hX
    · exact (hd X hX).1
    · exact hh.facts X hX
  · refine List.pairwise_append.2 ⟨?_, hh.sep, fun X hX Y _ k' h1 => absurd h1 ((hd X hX).2 k')⟩
    generalize Δ z = l at hd
    induction l with
    | nil => exact .nil
    | cons X r ih => exact List.pairwise_cons.2 ⟨fun Y _ k' h1 => absurd h1 ((hd X List.mem_cons_self).2 k'), ih fun Y hY => hd Y (List.mem_cons_of_mem _ hY)⟩
  · rcases List.mem_append.1 hX with hX | hX
    · exact absurd hk ((hd X hX).2 k')
    · exact hh.fresh X hX k' hk
theorem WC.turn {c : Code} {Γp Γr : List Fact} {R : List Fact → Prop} (s : Sel Γ Γp Γr) (h : ∀ S w, Start Γp S w → ∃ Δ S', R Δ ∧ Hold ⟨w, S, Own Γp, True⟩ Δ S' w)
    (k : ∀ Δ, R Δ → WC P Q G n D c L (Δ ++ Γr)) : WC P Q G n D c L Γ := by
  intro a w S hf hh
  obtain ⟨Δ, S', hR, hd⟩ := h S w (hh.start s)
  exact k Δ hR a w S' hf (hh.step s hd fun _ => trivial)
/-- Fewer slots, fewer facts, the facts in another order. -/
theorem WC.only {c : Code} {Γr : List Fact} (hl : Lsub L' L) (s : Sel Γ Γ' Γr) (k : WC P Q G n D c L' Γ') : WC P Q G n D c L Γ :=
  fun a w S hf hh => k a w S (hf.sub hl) (hh.sub_sel s)
theorem WX.turn {e : Exit} {Γp Γr : List Fact} {R : List Fact → Prop} (s : Sel Γ Γp Γr) (h : ∀ S w, Start Γp S w → ∃ Δ S', R Δ ∧ Hold ⟨w, S, Own Γp, True⟩ Δ S' w)
    (k : ∀ Δ, R Δ → WX Q G n D e L (Δ ++ Γr)) : WX Q G n D e L Γ := by
  intro a w S hf hh
  obtain ⟨Δ, S', hR, hd⟩ := h S w (hh.start s)
  exact k Δ hR a w S' hf (hh.step s hd fun _ => trivial)

/-- Both ways of a bool that stands in a slot. -/
theorem WL.splitB {l : List Oper} {b : Bool} (dj : Nat) (hd : Nat.blt dj n = true) (hb : look L dj = some (.bool b)) (k1 : b = true → WL P ops Q G n D l ((dj, .bool true) :: L) Γ) (k2 : b = false → WL P ops Q G n D l ((dj, .bool false) :: L) Γ) : WL P ops Q G n D l L Γ := by
  intro a w S hf hh
  have key : ∀ c, b = c → Fr n D a ((dj, .bool c) :: L) := fun c hc => ⟨hf.defers, hf.size, fun j v hj => by
    simp only [look] at hj
    split at hj
    · rename_i hb'
      have : dj = j := Nat.eq_of_beq_eq_true hb'
      subst this
      injection hj with hj
      subst hj hc
      exact hf.slots dj _ hb
    · exact hf.slots j v hj⟩
  cases hbc : b with
  | true => exact k1 hbc a w S (key true hbc) hh
  | false => exact k2 hbc a w S (key false hbc) hh
theorem WL.splitD {l : List Oper} {p : Prop} [Decidable p] (dj : Nat) (hd : Nat.blt dj n = true) (hb : look L dj = some (.bool (decide p))) (k1 : p → WL P ops Q G n D l ((dj, .bool true) :: L) Γ) (k2 : ¬ p → WL P ops Q G n D l ((dj, .bool false) :: L) Γ) : WL P ops Q G n D l L Γ :=
  WL.splitB dj hd hb (fun h => k1 (of_decide_eq_true h)) (fun h => k2 (of_decide_eq_false h))
theorem WL.case {l : List Oper} (p : Prop) (k1 : p → WL P ops Q G n D l L Γ) (k2 : ¬ p → WL P ops Q G n D l L Γ) : WL P ops Q G n D l L Γ := by
  rcases Classical.em p with h | h
  · exact k1 h
  · exact k2 h
/-! ### The operations of a region in the text's order -/
theorem WL.nil (k : WX Q G n D .normal L Γ) : WL P ops Q G n D [] L Γ := fun a w S hf hh => k a w S hf hh

theorem WL.quiet {v : Value} (hq : Qt P G n D o L Γ v) (hg : o.guard = none) (hd : fits o.dst n = true) (k : WL P ops Q G n D rest (putL o.dst v L) Γ) : WL P ops Q G n D (o :: rest) L Γ := by
  intro a w S hf hh
  refine wpList_plain hg fun K hK => ?_
  unfold Oper.wp
  rw [hq a w S hf hh]
  exact hK _ _ (k _ w S (hf.putO hd v) hh)

/-- An operation whose guard says yes. -/
theorem WL.quietG {v : Value} (j : Nat) (b : Bool) (hg : o.guard = some (j, b)) (dj : Nat) (hj : (ops[j]?).bind (·.dst) = some dj) (hb : look L dj = some (.bool b)) (hq : Qt P G n D o L Γ v) (hd : fits o.dst n = true)
    (k : WL P ops Q G n D rest (putL o.dst v L) Γ) : WL P ops Q G n D (o :: rest) L Γ := by
  intro a w S hf hh
  have hw : Region.wanted o (yielded ops a.tmps) = true := by
    simp [Region.wanted, hg, yielded, hj, hf.slots dj _ hb]
  unfold wpList
  rw [if_pos hw]
  refine .inl ?_
  unfold Oper.wp
  rw [hq a w S hf hh]
  exact k _ w S (hf.putO hd v) hh
/-- An operation whose guard says no. -/
theorem WL.skipG (j : Nat) (b c : Bool) (hg : o.guard = some (j, b)) (dj : Nat) (hj : (ops[j]?).bind (·.dst) = some dj) (hb : look L dj = some (.bool c)) (hc : (c == b) = false) (hd : fits o.dst n = true)
    (k : WL P ops Q G n D rest (putL o.dst undef L) Γ) : WL P ops Q G n D (o :: rest) L Γ := by
  intro a w S hf hh
  have hw : Region.wanted o (yielded ops a.tmps) = false := by
    simpa [Region.wanted, hg, yielded, hj, hf.slots dj _ hb] using hc
  unfold wpList
  rw [if_neg (by simp [hw])]
  exact k _ w S (hf.putO hd undef) hh
/-- An operation whose guard hangs on a value that was passed over. -/
theorem WL.skipU (j : Nat) (b : Bool) (hg : o.guard = some (j, b)) (dj : Nat) (hj : (ops[j]?).bind (·.dst) = some dj) (hb : look L dj = some undef) (hd : fits o.dst n = true)
    (k : WL P ops Q G n D rest (putL o.dst undef L) Γ) : WL P ops Q G n D (o :: rest) L Γ := by
  intro a w S hf hh
  have hw : Region.wanted o (yielded ops a.tmps) = false := by
    simp [Region.wanted, hg, yielded, hj, hf.slots dj _ hb, undef]
  unfold wpList
  rw [if_neg (by simp [hw])]
  exact k _ w S (hf.putO hd undef) hh

def wanted (ops : Array Oper) (L : List (Nat × Value)) (o : Oper) : Prop := match o.guard with
  | none => True
  | some (j, b) => ∃ dj, (ops[j]?).bind (·.dst) = some dj ∧ look L dj = some (.bool b)
theorem wanted.yes {a : Act} (h : wanted ops L o) (hf : Fr n D a L) : Region.wanted o (yielded ops a.tmps) = true := by
  unfold wanted at h
  split at h
  · rename_i hg
    simp [Region.wanted, hg]
  · rename_i j b hg
    obtain ⟨dj, hj, hb⟩ := h
    simp [Region.wanted, hg, yielded, hj, hf.slots dj _ hb]

theorem WL.loud {Γp Γr : List Fact} {R : Value → List Fact → Prop} (sel : Sel Γ Γp Γr) (h : Ld P n D o L Γp R) (hg : wanted ops L o) (hd : fits o.dst n = true)
    (k : ∀ v Δ, R v Δ → WL P ops Q G n D rest (putL o.dst v L) (Δ ++ Γr)) : WL P ops Q G n D (o :: rest) L Γ := by
  intro a w S hf hh
  obtain ⟨v, w', Γ', S', hrun, hR, hd'⟩ := h a hf w S (hh.start sel)
  unfold wpList
  rw [if_pos (hg.yes hf)]
  refine .inl ?_
  unfold Oper.wp
  rcases hrun with hrun | ⟨hrun, rfl⟩
  · rw [hrun]
    exact k v Γ' hR _ w' S' (hf.putO hd v) (hh.step sel hd' (fun _ => trivial))
  · rw [hrun]
    exact k undef Γ' hR _ w' S' (hf.putO hd undef) (hh.step sel hd' (fun _ => trivial))

theorem WL.call {Γp Γr : List Fact} {R : Value → List Fact → Prop} {f : FuncId} {args : Array Value} (sel : Sel Γ Γp Γr) (he : Cl P n D o L f args) (h : Spec G.mono P f args Γp R) (hg : wanted ops L o) (hd : fits o.dst n = true)
    (k : ∀ v Δ, R v Δ → WL P ops Q G n D rest (putL o.dst v L) (Δ ++ Γr)) : WL P ops Q G n D (o :: rest) L Γ := by
  intro a w S hf hh
  unfold wpList
  rw [if_pos (hg.yes hf)]
  refine .inl ?_
  unfold Oper.wp
  rw [he a w hf]
  refine (h w S (hh.start sel)).mono fun e w' ⟨v, Γ', S', hv, hR, hd'⟩ => ?_
  subst hv
  exact k v Γ' hR _ w' S' (hf.putO hd v) (hh.step sel hd' id)

/-! ### Regions that draw their order -/
section
variable {md : Region.Mode} {Sh : World → Prop}
/-- Whatever order is picked from here on; until the operations of K have come up, Sh holds behind each. -/
def wpAnyS (P : Program) (md : Region.Mode) (ops : Array Oper) (Q : Exit → Act → World → Prop) (Sh : World → Prop) (K : List Nat) : Nat → Array Bool → Act → World → Prop
  | 0, listed, a, w => Region.ready md ops listed = [] ∧ Q .normal a w
  | fuel + 1, listed, a, w => if K.all (fun k => listed.getD k true) = true then wpAny P md ops Q (fuel + 1) listed a w else
    (Region.ready md ops listed = [] → Q .normal a w) ∧
    ∀ i ∈ Region.ready md ops listed, wpOp P ops Q i (fun a' w' => Sh w' ∧ wpAnyS P md ops Q Sh K fuel (listed.setIfInBounds i true) a' w') a w
theorem wpAny_of_S {K : List Nat} : ∀ (fuel : Nat) (listed : Array Bool) (a : Act) (w : World), wpAnyS P md ops Q Sh K fuel listed a w → wpAny P md ops Q fuel listed a w
  | 0, _, _, _, h => h
  | fuel + 1, _, _, _, h => by
    unfold wpAnyS at h
    split at h
    · exact h
    · exact ⟨h.1, fun i hi => wpOp_mono (fun a' w' h' => wpAny_of_S fuel _ a' w' h'.2) (h.2 i hi)⟩
theorem wpAnyS_of_any {K : List Nat} {fuel : Nat} {listed : Array Bool} {a : Act} {w : World} (hK : K.all (fun k => listed.getD k true) = true) (h : wpAny P md ops Q fuel listed a w) : wpAnyS P md ops Q Sh K fuel listed a w := by
  cases fuel with
  | zero => exact h
  | succ fuel =>
    unfold wpAnyS
    rw [if_pos hK]
    exact h
theorem stop_not {K : List Nat} {listed : Array Bool} {i : Nat} (hi : i ∈ K) (h : listed.getD i true = false) : ¬ K.all (fun k => listed.getD k true) = true := fun hK => by
  have := List.all_eq_true.1 hK i hi
  rw [h] at this
  cases this
/-- Whatever is not of K waits for all of K. -/
def waits (ops : Array Oper) (md : Region.Mode) (K : List Nat) : Bool := (List.range ops.size).all fun j => K.any (Nat.beq j) || match ops[j]? with
  | some o => K.all fun k => o.after.any fun e => Region.binds md e && Nat.beq e.on k
  | none => true
theorem waits_spec {K : List Nat} (h : waits ops md K = true) {j : Nat} {oj : Oper} (hj : ops[j]? = some oj) (hn : j ∉ K) {k : Nat} (hk : k ∈ K) : ∃ e, e ∈ oj.after ∧ Region.binds md e = true ∧ e.on = k := by
  have h1 := List.all_eq_true.1 h j (by rw [List.mem_range]; exact (Array.getElem?_eq_some_iff.1 hj).1)
  rw [hj, Bool.or_eq_true] at h1
  rcases h1 with h1 | h1
  · obtain ⟨x, hx, he⟩ := List.any_eq_true.1 h1
    exact absurd (Nat.eq_of_beq_eq_true he ▸ hx) hn
  · have h2 := List.all_eq_true.1 h1 k hk
    obtain ⟨e, he, h3⟩ := Array.any_eq_true'.1 h2
    rw [Bool.and_eq_true] at h3
    exact ⟨e, he, h3.1, Nat.eq_of_beq_eq_true h3.2⟩
theorem wpAnyS_first {K : List Nat} (hw : waits ops md K = true) {i : Nat} (hiK : i ∈ K) {oi : Oper} {v : Value} (hi : ops[i]? = some oi) (hsel : ∀ (j : Nat) (o : Oper) cs b, ops[j]? = some o → o.op ≠ .select cs b)
    (hQ : ∀ c a w, Q (.panic c) (a.put oi.dst v) w → Q (.panic c) a w) :
    ∀ (fuel : Nat) (listed : Array Bool) (a : Act) (w : World),
      (∀ j oj, ops[j]? = some oj → j ≠ i → listed.getD j true = false → (∀ e ∈ oj.after, Region.binds md e = true → e.on ≠ i) → oi.apart ops oj = true) →
      i ∈ Region.ready md ops listed → YieldsIf P ops Sh oi v a → Sh w →
      wpAnyS P md ops Q Sh K fuel (listed.setIfInBounds i true) (a.put oi.dst v) w → wpAnyS P md ops Q Sh K (fuel + 1) listed a w := by
  intro fuel
  induction fuel with
  | zero =>
    intro listed a w _ hr hy hS H
    unfold wpAnyS
    rw [if_neg (stop_not hiK (mem_ready.1 hr).1)]
    refine ⟨fun h => (by rw [h] at hr; cases hr), fun j hj => ?_⟩
    by_cases hji : j = i
    · subst hji; exact hy.wpOp hi hS ⟨hS, H⟩
    · have := ready_mono hj hji
      rw [H.1] at this
      cases this
  | succ fuel ih =>
    intro listed a w hfree hr hy hS H
    unfold wpAnyS
    rw [if_neg (stop_not hiK (mem_ready.1 hr).1)]
    refine ⟨fun h => (by rw [h] at hr; cases hr), fun j hj => ?_⟩
    by_cases hji : j = i
    · subst hji; exact hy.wpOp hi hS ⟨hS, H⟩
    · obtain ⟨hjun, oj, hoj, hall⟩ := mem_ready.1 hj
      have hnot : ∀ e ∈ oj.after, Region.binds md e = true → e.on ≠ i := fun e he hb heq => by
        have h1 := hall e he hb
        have h0 := (mem_ready.1 hr).1
        rw [heq] at h1
        rcases Nat.lt_or_ge i listed.size with h' | h'
        · simp [h'] at h0 h1; rw [h0] at h1; cases h1
        · simp [Array.getElem?_eq_none h'] at h1
      have hfree' : ∀ k ok, ops[k]? = some ok → k ≠ i → (listed.setIfInBounds j true).getD k true = false →
          (∀ e ∈ ok.after, Region.binds md e = true → e.on ≠ i) → oi.apart ops ok = true := fun k ok hk hki hun hno => by
        refine hfree k ok hk hki ?_ hno
        by_cases hjk : j = k
        · subst hjk; exact hjun
        · rw [getD_set_ne true hjk] at hun; exact hun
      unfold wpAnyS at H
      split at H
      · rename_i hK
        exfalso
        rcases Classical.em (j ∈ K) with hjK | hjK
        · have := List.all_eq_true.1 hK j hjK
          rw [getD_set_ne true (Ne.symm hji), hjun] at this
          cases this
        · obtain ⟨e, he, hb, heq⟩ := waits_spec hw hoj hjK hiK
          exact hnot e he hb heq
      · have h1 := H.2 j (ready_mono hj hji)
        have h2 := wpOp_putIf hoj (hfree j oj hoj hji hjun hnot) (fun cs b => hsel i oi cs b hi) (fun cs b => hsel j oj cs b hoj) hQ hy h1
        refine wpOp_mono (fun a' w' h3 => ⟨h3.2.1, ih (listed.setIfInBounds j true) a' w' hfree' (ready_mono hr (Ne.symm hji)) h3.1 h3.2.1 ?_⟩) h2
        rw [Array.setIfInBounds_comm _ _ hji]
        exact h3.2.2
theorem wpAnyS_all {K : List Nat} {rs : List Nat} {fuel : Nat} {listed : Array Bool} {a : Act} {w : World} (hr : Region.ready md ops listed = rs) (hne : rs ≠ [])
    (h : ∀ i ∈ rs, wpOp P ops Q i (fun a' w' => Sh w' ∧ wpAnyS P md ops Q Sh K fuel (listed.setIfInBounds i true) a' w') a w) : wpAnyS P md ops Q Sh K (fuel + 1) listed a w := by
  unfold wpAnyS
  split
  · exact ⟨fun h0 => absurd (hr ▸ h0) hne, fun i hi => wpOp_mono (fun a' w' h' => wpAny_of_S fuel _ a' w' h'.2) (h i (hr ▸ hi))⟩
  · exact ⟨fun h0 => absurd (hr ▸ h0) hne, fun i hi => h i (hr ▸ hi)⟩
theorem wpAnyS_done {K : List Nat} {listed : Array Bool} {a : Act} {w : World} (hr : Region.ready md ops listed = []) (h : Q .normal a w) :
    ∀ fuel, wpAnyS P md ops Q Sh K fuel listed a w
  | 0 => ⟨hr, h⟩
  | _ + 1 => by
    unfold wpAnyS
    split
    · exact ⟨fun _ => h, by rw [hr]; simp⟩
    · exact ⟨fun _ => h, by rw [hr]; simp⟩
end
/-- From here on whatever order comes up; what stands until the operations of K have come up: Γq. -/
def WA (P : Program) (ops : Array Oper) (Q : Exit → Act → World → Prop) (G : Ctx) (n : Nat) (D : List Deferred) (K : List Nat) (Γq : List Fact) (fuel : Nat) (listed : Array Bool) (L : List (Nat × Value)) (Γ : List Fact) : Prop :=
  ∀ a w S, Fr n D a L → Hold G Γ S w → wpAnyS P .any ops Q (fun w => ∃ S, Hold G Γq S w) K fuel listed a w

theorem WC.draw {id : Nat} {Γq : List Fact} (K : List Nat) (hm : P.follows .mixedOrders = true) (k : WA P ops Q G n D K Γq ops.size (Array.replicate ops.size false) L Γ) : WC P Q G n D (.region id ops true) L Γ := by
  intro a w S hf hh
  exact wp_region_any hm (wpAny_of_S _ _ _ _ (k a _ S hf (hh.draw _ (Nat.le_succ _))))

theorem WA.done {K : List Nat} {Γq : List Fact} {fuel : Nat} {listed : Array Bool} (hr : Region.ready .any ops listed = []) (k : WX Q G n D .normal L Γ) : WA P ops Q G n D K Γq fuel listed L Γ :=
  fun a w S hf hh => wpAnyS_done hr (k a w S hf hh) fuel
/-- The operations of K have come up: other facts are to stand from here on. -/
theorem WA.phase {K K' : List Nat} {Γq Γq' : List Fact} {fuel : Nat} {listed : Array Bool} (hK : K.all (fun k => listed.getD k true) = true) (k : WA P ops Q G n D K' Γq' fuel listed L Γ) : WA P ops Q G n D K Γq fuel listed L Γ :=
  fun a w S hf hh => wpAnyS_of_any hK (wpAny_of_S _ _ _ _ (k a w S hf hh))
/-- Facts turned into others, nothing being done. -/
theorem WA.turn {K : List Nat} {Γq : List Fact} {fuel : Nat} {listed : Array Bool} {Γp Γr : List Fact} {R : List Fact → Prop} (s : Sel Γ Γp Γr) (h : ∀ S w, Start Γp S w → ∃ Δ S', R Δ ∧ Hold ⟨w, S, Own Γp, True⟩ Δ S' w)
    (k : ∀ Δ, R Δ → WA P ops Q G n D K Γq fuel listed L (Δ ++ Γr)) : WA P ops Q G n D K Γq fuel listed L Γ := by
  intro a w S hf hh
  obtain ⟨Δ, S', hR, hd⟩ := h S w (hh.start s)
  exact k Δ hR a w S' hf (hh.step s hd fun _ => trivial)

/-- The post does not look at the frame on a panic. -/
def Calm (Q : Exit → Act → World → Prop) : Prop := ∀ c a d v w, Q (.panic c) (Act.put a d v) w → Q (.panic c) a w

/-- Number i yields its value whatever world comes: it may be taken first. -/
theorem WA.take {K : List Nat} {Γq Γr : List Fact} {fuel : Nat} {listed : Array Bool} {v : Value} (hw : waits ops .any K = true) (i : Nat) (hiK : i ∈ K) {oi : Oper} (hi : ops[i]? = some oi) (hs : Region.noSelect ops = true) (hfree : Region.free .any ops listed i = true) (hr : (Region.ready .any ops listed).contains i = true)
    (hQ : Calm Q) (hq : Qt P G n D oi L Γq v) (hg : wanted ops L oi) (hd : fits oi.dst n = true) (sel : Sel Γ Γq Γr)
    (k : WA P ops Q G n D K Γq fuel (listed.setIfInBounds i true) (putL oi.dst v L) Γ) : WA P ops Q G n D K Γq (fuel + 1) listed L Γ := by
  intro a w S hf hh
  refine wpAnyS_first hw hiK hi (Region.noSelect_spec hs) (fun c a w => hQ c a _ _ w) fuel listed a w (Region.free_spec hi hfree) (by simpa using hr) (.inl ⟨hg.yes hf, fun w ⟨S, hw⟩ => hq a w S hf hw⟩) ⟨S, hh.sub_sel sel⟩ ?_
  exact k _ w S (hf.putO hd v) hh
/-- Number i is passed over. -/
theorem WA.skip {K : List Nat} {Γq Γr : List Fact} {fuel : Nat} {listed : Array Bool} (hwt : waits ops .any K = true) (i : Nat) (hiK : i ∈ K) {oi : Oper} (hi : ops[i]? = some oi) (hs : Region.noSelect ops = true) (hfree : Region.free .any ops listed i = true) (hr : (Region.ready .any ops listed).contains i = true)
    (hQ : Calm Q) (j : Nat) (b : Bool) (u : Value) (hg : oi.guard = some (j, b)) (dj : Nat) (hj : (ops[j]?).bind (·.dst) = some dj) (hb : look L dj = some u) (hu : ∀ c, u = .bool c → (c == b) = false) (hd : fits oi.dst n = true) (sel : Sel Γ Γq Γr)
    (k : WA P ops Q G n D K Γq fuel (listed.setIfInBounds i true) (putL oi.dst undef L) Γ) : WA P ops Q G n D K Γq (fuel + 1) listed L Γ := by
  intro a w S hf hh
  have hw : Region.wanted oi (yielded ops a.tmps) = false := by
    have := hf.slots dj _ hb
    cases u <;> simp [Region.wanted, hg, yielded, hj, this]
    simpa using hu _ rfl
  refine wpAnyS_first hwt hiK hi (Region.noSelect_spec hs) (fun c a w => hQ c a _ _ w) fuel listed a w (Region.free_spec hi hfree) (by simpa using hr) (.inr ⟨hw, rfl⟩) ⟨S, hh.sub_sel sel⟩ ?_
  exact k _ w S (hf.putO hd undef) hh
/-- What is told once for a region: that the post is calm; for a stretch of it: what the facts of the phase are among those at hand. -/
theorem WC.calm {c : Code} (h : Calm Q) (k : Calm Q → WC P Q G n D c L Γ) : WC P Q G n D c L Γ := k h
theorem WA.named {K : List Nat} {Γq Γr : List Fact} {fuel : Nat} {listed : Array Bool} (s : Sel Γ Γq Γr) (k : Sel Γ Γq Γr → WA P ops Q G n D K Γq fuel listed L Γ) : WA P ops Q G n D K Γq fuel listed L Γ := k s
def okNow (ops : Array Oper) (K : List Nat) (listed : Array Bool) (i : Nat) : Bool := waits ops .any K && Region.noSelect ops && Region.free .any ops listed i && (Region.ready .any ops listed).contains i && K.contains i
theorem okNow.all {K : List Nat} {listed : Array Bool} {i : Nat} (h : okNow ops K listed i = true) : waits ops .any K = true ∧ Region.noSelect ops = true ∧ Region.free .any ops listed i = true ∧ (Region.ready .any ops listed).contains i = true ∧ i ∈ K := by
  unfold okNow at h
  simp only [Bool.and_eq_true] at h
  exact ⟨h.1.1.1.1, h.1.1.1.2, h.1.1.2, h.1.2, by simpa using h.2⟩
theorem WA.tk {K : List Nat} {Γq Γr : List Fact} {fuel : Nat} {listed : Array Bool} {v : Value} (i : Nat) (hb : okNow ops K listed i = true) {oi : Oper} (hi : ops[i]? = some oi)
    (hQ : Calm Q) (hq : Qt P G n D oi L Γq v) (hg : wanted ops L oi) (hd : fits oi.dst n = true) (sel : Sel Γ Γq Γr)
    (k : WA P ops Q G n D K Γq fuel (listed.setIfInBounds i true) (putL oi.dst v L) Γ) : WA P ops Q G n D K Γq (fuel + 1) listed L Γ :=
  WA.take (okNow.all hb).1 i (okNow.all hb).2.2.2.2 hi (okNow.all hb).2.1 (okNow.all hb).2.2.1 (okNow.all hb).2.2.2.1 hQ hq hg hd sel k
theorem WA.sk {K : List Nat} {Γq Γr : List Fact} {fuel : Nat} {listed : Array Bool} (i : Nat) (hok : okNow ops K listed i = true) {oi : Oper} (hi : ops[i]? = some oi)
    (hQ : Calm Q) (j : Nat) (b : Bool) (u : Value) (hg : oi.guard = some (j, b)) (dj : Nat) (hj : (ops[j]?).bind (·.dst) = some dj) (hb : look L dj = some u) (hu : ∀ c, u = .bool c → (c == b) = false) (hd : fits oi.dst n = true) (sel : Sel Γ Γq Γr)
    (k : WA P ops Q G n D K Γq fuel (listed.setIfInBounds i true) (putL oi.dst undef L) Γ) : WA P ops Q G n D K Γq (fuel + 1) listed L Γ :=
  WA.skip (okNow.all hok).1 i (okNow.all hok).2.2.2.2 hi (okNow.all hok).2.1 (okNow.all hok).2.2.1 (okNow.all hok).2.2.2.1 hQ j b u hg dj hj hb hu hd sel k
/-- Both ways of a bool that stands in a slot. -/
theorem WA.splitB {K : List Nat} {Γq : List Fact} {fuel : Nat} {listed : Array Bool} {b : Bool} (dj : Nat) (hd : Nat.blt dj n = true) (hb : look L dj = some (.bool b)) (k1 : b = true → WA P ops Q G n D K Γq fuel listed ((dj, .bool true) :: L) Γ) (k2 : b = false → WA P ops Q G n D K Γq fuel listed ((dj, .bool false) :: L) Γ) : WA P ops Q G n D K Γq fuel listed L Γ := by
  intro a w S hf hh
  have key : ∀ c, b = c → Fr n D a ((dj, .bool c) :: L) := fun c hc => ⟨hf.defers, hf.size, fun j v hj => by
    simp only [look] at hj
    split at hj
    · rename_i hb'
      have : dj = j := Nat.eq_of_beq_eq_true hb'
      subst this
      injection hj with hj
      subst hj hc
      exact hf.slots dj _ hb
    · exact hf.slots j v hj⟩
  cases hbc : b with
  | true => exact k1 hbc a w S (key true hbc) hh
  | false => exact k2 hbc a w S (key false hbc) hh
theorem WA.splitD {K : List Nat} {Γq : List Fact} {fuel : Nat} {listed : Array Bool} {p : Prop} [Decidable p] (dj : Nat) (hd : Nat.blt dj n = true) (hb : look L dj = some (.bool (decide p))) (k1 : p → WA P ops Q G n D K Γq fuel listed ((dj, .bool true) :: L) Γ) (k2 : ¬ p → WA P ops Q G n D K Γq fuel listed ((dj, .bool false) :: L) Γ) : WA P ops Q G n D K Γq fuel listed L Γ :=
  WA.splitB dj hd hb (fun h => k1 (of_decide_eq_true h)) (fun h => k2 (of_decide_eq_false h))

/-- One of those that may come up. -/
def WO (P : Program) (ops : Array Oper) (Q : Exit → Act → World → Prop) (G : Ctx) (n : Nat) (D : List Deferred) (K : List Nat) (Γq : List Fact) (fuel : Nat) (listed : Array Bool) (L : List (Nat × Value)) (Γ : List Fact) (i : Nat) : Prop :=
  ∀ a w S, Fr n D a L → Hold G Γ S w → wpOp P ops Q i (fun a' w' => (∃ S, Hold G Γq S w') ∧ wpAnyS P .any ops Q (fun w => ∃ S, Hold G Γq S w) K fuel (listed.setIfInBounds i true) a' w') a w
theorem WA.all {K : List Nat} {Γq : List Fact} {fuel : Nat} {listed : Array Bool} (rs : List Nat) (hr : Region.ready .any ops listed = rs) (hne : rs ≠ []) (h : ∀ i, i ∈ rs → WO P ops Q G n D K Γq fuel listed L Γ i) : WA P ops Q G n D K Γq (fuel + 1) listed L Γ :=
  fun a w S hf hh => wpAnyS_all hr hne fun i hi => h i hi a w S hf hh
theorem WA.one {K : List Nat} {Γq : List Fact} {fuel : Nat} {listed : Array Bool} (i : Nat) (hr : Region.ready .any ops listed = [i]) (h : WO P ops Q G n D K Γq fuel listed L Γ i) : WA P ops Q G n D K Γq (fuel + 1) listed L Γ :=
  WA.all [i] hr (by simp) fun j hj => by
    obtain rfl : j = i := by simpa using hj
    exact h
theorem WA.two {K : List Nat} {Γq : List Fact} {fuel : Nat} {listed : Array Bool} (i i' : Nat) (hr : Region.ready .any ops listed = [i, i']) (h : WO P ops Q G n D K Γq fuel listed L Γ i) (h' : WO P ops Q G n D K Γq fuel listed L Γ i') : WA P ops Q G n D K Γq (fuel + 1) listed L Γ :=
  WA.all [i, i'] hr (by simp) fun j hj => by
    rcases List.mem_cons.1 hj with rfl | hj
    · exact h
    · obtain rfl : j = i' := by simpa using hj
      exact h'

theorem WO.loud {K : List Nat} {Γq Γp Γr : List Fact} {fuel : Nat} {listed : Array Bool} {i : Nat} {oi : Oper} (hi : ops[i]? = some oi) {R : Value → List Fact → Prop} (sel : Sel Γ Γp Γr) (h : Ld P n D oi L Γp R) (hg : wanted ops L oi) (hd : fits oi.dst n = true)
    (hk : ∀ v Δ, R v Δ → ∃ Γr', Sel (Δ ++ Γr) Γq Γr') (k : ∀ v Δ, R v Δ → WA P ops Q G n D K Γq fuel (listed.setIfInBounds i true) (putL oi.dst v L) (Δ ++ Γr)) : WO P ops Q G n D K Γq fuel listed L Γ i := by
  intro a w S hf hh
  obtain ⟨v, w', Γ', S', hrun, hR, hd'⟩ := h a hf w S (hh.start sel)
  unfold wpOp
  simp only [hi]
  rw [if_pos (hg.yes hf)]
  refine .inl ?_
  unfold Oper.wp
  obtain ⟨_, hq⟩ := hk v Γ' hR
  rcases hrun with hrun | ⟨hrun, rfl⟩
  · rw [hrun]
    exact ⟨⟨S', (hh.step sel hd' (fun _ => trivial)).sub_sel hq⟩, k v Γ' hR _ w' S' (hf.putO hd v) (hh.step sel hd' (fun _ => trivial))⟩
  · rw [hrun]
    exact ⟨⟨S', (hh.step sel hd' (fun _ => trivial)).sub_sel hq⟩, k undef Γ' hR _ w' S' (hf.putO hd undef) (hh.step sel hd' (fun _ => trivial))⟩
theorem WO.quiet {K : List Nat} {Γq Γr' : List Fact} {fuel : Nat} {listed : Array Bool} {i : Nat} {oi : Oper} {v : Value} (hi : ops[i]? = some oi) (hq : Qt P G n D oi L Γ v) (hg : wanted ops L oi) (hd : fits oi.dst n = true) (hk : Sel Γ Γq Γr')
    (k : WA P ops Q G n D K Γq fuel (listed.setIfInBounds i true) (putL oi.dst v L) Γ) : WO P ops Q G n D K Γq fuel listed L Γ i := by
  intro a w S hf hh
  unfold wpOp
  simp only [hi]
  rw [if_pos (hg.yes hf)]
  refine .inl ?_
  unfold Oper.wp
  rw [hq a w S hf hh]
  exact ⟨⟨S, hh.sub_sel hk⟩, k _ w S (hf.putO hd v) hh⟩
theorem WO.call {K : List Nat} {Γq Γp Γr : List Fact} {fuel : Nat} {listed : Array Bool} {i : Nat} {oi : Oper} (hi : ops[i]? = some oi) {R : Value → List Fact → Prop} {f : FuncId} {args : Array Value} (sel : Sel Γ Γp Γr) (he : Cl P n D oi L f args) (h : Spec G.mono P f args Γp R) (hg : wanted ops L oi) (hd : fits oi.dst n = true)
    (hk : ∀ v Δ, R v Δ → ∃ Γr', Sel (Δ ++ Γr) Γq Γr') (k : ∀ v Δ, R v Δ → WA P ops Q G n D K Γq fuel (listed.setIfInBounds i true) (putL oi.dst v L) (Δ ++ Γr)) : WO P ops Q G n D K Γq fuel listed L Γ i := by
  intro a w S hf hh
  unfold wpOp
  simp only [hi]
  rw [if_pos (hg.yes hf)]
  refine .inl ?_
  unfold Oper.wp
  rw [he a w hf]
  refine (h w S (hh.start sel)).mono fun e w' ⟨v, Γ', S', hv, hR, hd'⟩ => ?_
  subst hv
  obtain ⟨_, hq⟩ := hk v Γ' hR
  exact ⟨⟨S', (hh.step sel hd' id).sub_sel hq⟩, k v Γ' hR _ w' S' (hf.putO hd v) (hh.step sel hd' id)⟩

/-! ### Code -/
theorem WC.region {id : Nat} {l : List Oper} (k : WL P l.toArray Q G n D l L Γ) : WC P Q G n D (.region id l.toArray false) L Γ :=
  fun a w S hf hh => wp_region_lit (k a w S hf hh)
theorem WC.seq {x y : Code} (k : WC P (Exit.then (fun a w => y.wp P Q a w) Q) G n D x L Γ) : WC P Q G n D (.seq x y) L Γ :=
  fun a w S hf hh => wp_seq (k a w S hf hh)
/-- A piece of code, then the rest from what is known behind it. -/
theorem WC.cut {x y : Code} {ι : Sort _} (I : ι → List (Nat × Value)) (J : ι → List Fact) (φ : ι → Prop) (k1 : WC P (Exit.then (fun a w => ∃ i S, φ i ∧ Fr n D a (I i) ∧ Hold G (J i) S w) Q) G n D x L Γ) (k2 : ∀ i, φ i → WC P Q G n D y (I i) (J i)) : WC P Q G n D (.seq x y) L Γ :=
  fun a w S hf hh => wp_seq (Code.wp_mono (fun e a w q => by
    cases e with
    | normal => obtain ⟨i, S, hp, hf, hh⟩ := q; exact k2 i hp a w S hf hh
    | _ => exact q) (k1 a w S hf hh))
theorem WX.cut {ι : Sort _} {I : ι → List (Nat × Value)} {J : ι → List Fact} {φ : ι → Prop} {Γr : List Fact} (i : ι) (hφ : φ i) (hl : Lsub (I i) L) (s : Sel Γ (J i) Γr) : WX (Exit.then (fun a w => ∃ i S, φ i ∧ Fr n D a (I i) ∧ Hold G (J i) S w) Q) G n D .normal L Γ :=
  fun a w S hf hh => ⟨i, S, hφ, hf.sub hl, hh.sub_sel s⟩
theorem WC.cond {c : Operand} {x y : Code} {b : Bool} (hc : ev L c = some (.bool b)) (k1 : b = true → WC P Q G n D x L Γ) (k2 : b = false → WC P Q G n D y L Γ) : WC P Q G n D (.cond c x y) L Γ :=
  fun a w S hf hh => wp_cond_split (hf.eval hc) (fun h => k1 h a w S hf hh) (fun h => k2 h a w S hf hh)
theorem WC.condD {c : Operand} {x y : Code} {p : Prop} [Decidable p] (hc : ev L c = some (.bool (decide p))) (k1 : p → WC P Q G n D x L Γ) (k2 : ¬ p → WC P Q G n D y L Γ) : WC P Q G n D (.cond c x y) L Γ :=
  WC.cond hc (fun h => k1 (of_decide_eq_true h)) (fun h => k2 (of_decide_eq_false h))
theorem WC.yes {c : Operand} {x y : Code} (hc : ev L c = some (.bool true)) (k : WC P Q G n D x L Γ) : WC P Q G n D (.cond c x y) L Γ :=
  fun a w S hf hh => wp_cond_true (hf.eval hc) (k a w S hf hh)
theorem WC.no {c : Operand} {x y : Code} (hc : ev L c = some (.bool false)) (k : WC P Q G n D y L Γ) : WC P Q G n D (.cond c x y) L Γ :=
  fun a w S hf hh => wp_cond_false (hf.eval hc) (k a w S hf hh)
theorem WC.skip (k : WX Q G n D .normal L Γ) : WC P Q G n D .skip L Γ := fun a w S hf hh => wp_skip (k a w S hf hh)
theorem WC.ret (k : WX Q G n D .ret L Γ) : WC P Q G n D .ret L Γ := fun a w S hf hh => wp_ret (k a w S hf hh)
theorem WC.exit {id : Nat} (k : WX Q G n D (.exit id) L Γ) : WC P Q G n D (.exit id) L Γ := fun a w S hf hh => wp_exit (k a w S hf hh)
theorem WC.block {id : Nat} {c : Code} (k : WC P (Exit.inBlock id Q) G n D c L Γ) : WC P Q G n D (.block id c) L Γ := fun a w S hf hh => wp_block (k a w S hf hh)

theorem WC.case {c : Code} (p : Prop) (k1 : p → WC P Q G n D c L Γ) (k2 : ¬ p → WC P Q G n D c L Γ) : WC P Q G n D c L Γ := by
  rcases Classical.em p with h | h
  · exact k1 h
  · exact k2 h

/-! ### Ways out -/
theorem WX.next {y : Code} (k : WC P Q G n D y L Γ) : WX (Exit.then (fun a w => y.wp P Q a w) Q) G n D .normal L Γ := fun a w S hf hh => k a w S hf hh
theorem WX.pass_ret {K : Act → World → Prop} (k : WX Q G n D .ret L Γ) : WX (Exit.then K Q) G n D .ret L Γ := fun a w S hf hh => k a w S hf hh
theorem WX.pass_exit {K : Act → World → Prop} {id : Nat} (k : WX Q G n D (.exit id) L Γ) : WX (Exit.then K Q) G n D (.exit id) L Γ := fun a w S hf hh => k a w S hf hh
theorem WX.block_end {id : Nat} (k : WX Q G n D .normal L Γ) : WX (Exit.inBlock id Q) G n D .normal L Γ := fun a w S hf hh => k a w S hf hh
theorem WX.block_ret {id : Nat} (k : WX Q G n D .ret L Γ) : WX (Exit.inBlock id Q) G n D .ret L Γ := fun a w S hf hh => k a w S hf hh
theorem WX.block_exit {id : Nat} (k : WX Q G n D .normal L Γ) : WX (Exit.inBlock id Q) G n D (.exit id) L Γ := fun a w S hf hh => by
  simp only [Exit.inBlock, if_true]
  exact k a w S hf hh
theorem WX.block_other {id id' : Nat} (hne : Nat.beq id' id = false) (k : WX Q G n D (.exit id') L Γ) : WX (Exit.inBlock id Q) G n D (.exit id') L Γ := fun a w S hf hh => by
  simp only [Exit.inBlock, if_neg (Nat.ne_of_beq_eq_false hne)]
  exact k a w S hf hh

/-! ### Loops -/
/-- What stands at a round's head. -/
def Head (G : Ctx) (n : Nat) (D : List Deferred) {ι : Type _} (I : ι → List (Nat × Value)) (J : ι → List Fact) (φ : ι → Prop) (μ : ι → Nat) (m : Nat) (a : Act) (w : World) : Prop := ∃ i S, φ i ∧ μ i < m ∧ Fr n D a (I i) ∧ Hold G (J i) S w
theorem exists_least (p : Nat → Prop) : ∀ m, p m → ∃ m, p m ∧ ∀ k, p k → m ≤ k := by
  intro m
  induction m using Nat.strongRecOn with
  | _ m ih =>
    intro hm
    rcases Classical.em (∃ k, p k ∧ k < m) with ⟨k, hk, hlt⟩ | h
    · exact ih k hlt hk
    · exact ⟨m, hm, fun k hk => Nat.le_of_not_lt fun hlt => h ⟨k, hk, hlt⟩⟩
theorem WC.loop {c : Code} {Γr : List Fact} {ι : Type _} (I : ι → List (Nat × Value)) (J : ι → List Fact) (φ : ι → Prop) (μ : ι → Nat) (i : ι) (hφ : φ i) (hl : Lsub (I i) L) (s : Sel Γ (J i) Γr)
    (round : ∀ i, φ i → WC P (Exit.then (Head G n D I J φ μ (μ i)) Q) G n D c (I i) (J i)) : WC P Q G n D (.loop c) L Γ := by
  classical
  intro a w S hf hh
  let St : Act → World → Nat → Prop := fun a w m => Head G n D I J φ μ (m + 1) a w
  have hst : ∃ m, St a w m := ⟨μ i, i, S, hφ, Nat.lt_succ_self _, hf.sub hl, hh.sub_sel s⟩
  have hleast : ∀ a w, (∃ m, St a w m) → ∃ m, St a w m ∧ ∀ k, St a w k → m ≤ k := fun a w ⟨m, hm⟩ => exists_least _ m hm
  let mu : Act → World → Nat := fun a w => if h : ∃ m, St a w m then Classical.choose (hleast a w h) else 0
  refine wp_loop (fun a w => ∃ m, St a w m) mu hst ?_
  intro a w h
  have hmu : mu a w = Classical.choose (hleast a w h) := dif_pos h
  obtain ⟨⟨i, S, hφ, hlt, hf, hh⟩, _⟩ := Classical.choose_spec (hleast a w h)
  have hle : μ i ≤ mu a w := by rw [hmu]; exact Nat.le_of_lt_succ hlt
  refine Code.wp_mono (fun e a' w' q => ?_) (round i hφ a w S hf hh)
  cases e with
  | normal =>
    obtain ⟨i', S', hφ', hlt', hf', hh'⟩ := q
    have h' : ∃ m, St a' w' m := ⟨μ i', i', S', hφ', Nat.lt_succ_self _, hf', hh'⟩
    refine ⟨h', ?_⟩
    have hmu' : mu a' w' = Classical.choose (hleast a' w' h') := dif_pos h'
    rw [hmu']
    exact Nat.lt_of_le_of_lt ((Classical.choose_spec (hleast a' w' h')).2 (μ i') ⟨i', S', hφ', Nat.lt_succ_self _, hf', hh'⟩) (Nat.lt_of_lt_of_le hlt' hle)
  | _ => exact q
theorem WX.back {Γr : List Fact} {ι : Type _} {I : ι → List (Nat × Value)} {J : ι → List Fact} {φ : ι → Prop} {μ : ι → Nat} {m : Nat} (i : ι) (hφ : φ i) (hμ : μ i < m) (hl : Lsub (I i) L) (s : Sel Γ (J i) Γr) : WX (Exit.then (Head G n D I J φ μ m) Q) G n D .normal L Γ :=
  fun a w S hf hh => ⟨i, S, hφ, hμ, hf.sub hl, hh.sub_sel s⟩

/-! ### A function -/
def enumL (k : Nat) : List Value → List (Nat × Value)
  | [] => []
  | v :: r => (k, v) :: enumL (k + 1) r
theorem look_enumL : ∀ (l : List Value) (k j : Nat) (v : Value), look (enumL k l) j = some v → k ≤ j ∧ l[j - k]? = some v
  | [], _, _, _, h => by cases h
  | x :: r, k, j, v, h => by
    simp only [enumL, look] at h
    split at h
    · rename_i hb
      have : k = j := Nat.eq_of_beq_eq_true hb
      subst this
      simpa using h
    · rename_i hb
      have hne : k ≠ j := Nat.ne_of_beq_eq_false hb
      obtain ⟨h1, h2⟩ := look_enumL r (k + 1) j v h
      refine ⟨by omega, ?_⟩
      have : j - k = (j - (k + 1)) + 1 := by omega
      rw [this]
      simpa using h2
/-- The post of a function's body. -/
def FQ (P : Program) (fn : Func) (G : Ctx) (R : Value → List Fact → Prop) : Exit → Act → World → Prop :=
  bodyPost P fn fun e w' => ∃ v Γ' S', e = .returned v ∧ R v Γ' ∧ Hold G Γ' S' w'
theorem Spec.of_body {μ : Prop} {f : FuncId} {fn : Func} {c : Code} {args : List Value} {R : Value → List Fact → Prop} (hf : P.funcs[f]? = some fn) (hb : fn.body = some c) (hn : fn.ntmps = n) (hle : Nat.ble args.length n = true)
    (k : ∀ w0 S0 O0, WC P (FQ P fn ⟨w0, S0, O0, μ⟩ R) ⟨w0, S0, O0, μ⟩ n [] c (enumL 0 args) Γ) : Spec μ P f args.toArray Γ R := by
  intro w S hs
  have hle' : args.length ≤ n := by simpa [Nat.ble_eq] using hle
  refine calls_of_wp hf hb (k w S (Own Γ) _ w S ⟨rfl, by simp [hn]; omega, fun j v hj => ?_⟩ hs.any)
  obtain ⟨_, h2⟩ := look_enumL args 0 j v hj
  have hlt : j < args.length := (List.getElem?_eq_some_iff.1 (by simpa using h2)).1
  simp only [Nat.sub_zero] at h2
  rw [Array.getElem?_append, if_pos (by simpa using hlt)]
  simpa using h2
theorem calm_FQ (fn : Func) (R : Value → List Fact → Prop) : Calm (FQ P fn G R) := fun c a d v w h => by
  cases d <;> exact h
theorem Calm.then {K : Act → World → Prop} (h : Calm Q) : Calm (Exit.then K Q) := fun c a d v w q => h c a d v w q
theorem Calm.inBlock {id : Nat} (h : Calm Q) : Calm (Exit.inBlock id Q) := fun c a d v w q => h c a d v w q

/-- Results that stand in slots. -/
def slotsOf : List ResultVar → List (Nat × Value) → Option (List Value)
  | [], _ => some []
  | .tmp t :: r, L => match look L t, slotsOf r L with
    | some v, some vs => some (v :: vs)
    | _, _ => none
  | .cell _ _ :: _, _ => none
/-- Fewer facts on the way out. -/
theorem WX.only {e : Exit} {Γ' Γr : List Fact} (s : Sel Γ Γ' Γr) (k : WX Q G n D e L Γ') : WX Q G n D e L Γ := fun a w S hf hh => k a w S hf (hh.sub_sel s)
theorem WX.ret1 {fn : Func} {R : Value → List Fact → Prop} {t : Tmp} {v : Value} {Γ' Γr : List Fact} (s : Sel Γ Γ' Γr) (hr : fn.results = #[.tmp t]) (hv : look L t = some v) (h : R v Γ') : WX (FQ P fn G R) G n [] .ret L Γ := by
  intro a w S hf hh
  refine bodyPost_ret (results_tmp hr a.tmps P w) hf.defers ⟨_, Γ', S, rfl, ?_, hh.sub_sel s⟩
  simpa [Array.getD_eq_getD_getElem?, hf.slots t v hv] using h
theorem WX.ret2 {fn : Func} {R : Value → List Fact → Prop} {t u : Tmp} {v x : Value} {Γ' Γr : List Fact} (s : Sel Γ Γ' Γr) (hr : fn.results = #[.tmp t, .tmp u]) (hv : look L t = some v) (hx : look L u = some x) (h : R (.tuple [v, x].toArray) Γ') : WX (FQ P fn G R) G n [] .ret L Γ := by
  intro a w S hf hh
  refine bodyPost_ret (results_tmp2 hr a.tmps P w) hf.defers ⟨_, Γ', S, rfl, ?_, hh.sub_sel s⟩
  simpa [Array.getD_eq_getD_getElem?, hf.slots t v hv, hf.slots u x hx] using h
theorem WX.ret3 {fn : Func} {R : Value → List Fact → Prop} {t u q : Tmp} {v x y : Value} {Γ' Γr : List Fact} (s : Sel Γ Γ' Γr) (hr : fn.results = #[.tmp t, .tmp u, .tmp q]) (hv : look L t = some v) (hx : look L u = some x) (hy : look L q = some y) (h : R (.tuple [v, x, y].toArray) Γ') : WX (FQ P fn G R) G n [] .ret L Γ := by
  intro a w S hf hh
  refine bodyPost_ret (v := .tuple [v, x, y].toArray) ?_ hf.defers ⟨_, Γ', S, rfl, h, hh.sub_sel s⟩
  simp [results, hr, Array.getD_eq_getD_getElem?, hf.slots t v hv, hf.slots u x hx, hf.slots q y hy]
theorem WX.ret0 {fn : Func} {R : Value → List Fact → Prop} {Γ' Γr : List Fact} (s : Sel Γ Γ' Γr) (hr : fn.results = #[]) (h : R (.tuple #[]) Γ') : WX (FQ P fn G R) G n [] .ret L Γ := by
  intro a w S hf hh
  exact bodyPost_ret (results_none hr a.tmps P w) hf.defers ⟨_, Γ', S, rfl, h, hh.sub_sel s⟩
theorem WX.end0 {fn : Func} {R : Value → List Fact → Prop} {Γ' Γr : List Fact} (s : Sel Γ Γ' Γr) (hr : fn.results = #[]) (h : R (.tuple #[]) Γ') : WX (FQ P fn G R) G n [] .normal L Γ := by
  intro a w S hf hh
  exact bodyPost_end (results_none hr a.tmps P w) hf.defers ⟨_, Γ', S, rfl, h, hh.sub_sel s⟩
theorem WX.endC {fn : Func} {R : Value → List Fact → Prop} (k : WX (FQ P fn G R) G n [] .ret L Γ) : WX (FQ P fn G R) G n [] .normal L Γ := fun a w S hf hh => k a w S hf hh
end
end Go.Proofs.YtolggjmgfijjfaaGreatDoor.Sep

/- The operations' rules, the quiet ones: what they yield, read off slots and facts. Nothing here speaks of a program. -/
namespace Go.Proofs.YtolggjmgfijjfaaGreatDoor.Sep
open Go

/-- A type's zero value, cells and bytes. -/
def TI (P : Program) (t : TypeId) (z : Value) (sz by_ : Nat) : Prop := ∃ i, P.info? t = some i ∧ i.zero = some z ∧ i.size = sz ∧ i.bytes = by_
theorem TI.of {P : Program} {t : TypeId} {z : Value} {sz by_ : Nat} (h : (P.info? t).map (fun i => (i.zero, i.size, i.bytes)) = some (some z, sz, by_)) : TI P t z sz by_ := by
  obtain ⟨i, hi, hz⟩ := Option.map_eq_some_iff.1 h
  simp only [Prod.mk.injEq] at hz
  exact ⟨i, hi, hz.1, hz.2.1, hz.2.2⟩
theorem TI.size {P : Program} {t : TypeId} {z : Value} {sz by_ : Nat} (h : TI P t z sz by_) (w : World) : (sizeOf t).run P w = .ok sz w := by
  obtain ⟨i, hi, hz, hs, hb⟩ := h
  simp [sizeOf, typeInfo, hi, hs]
theorem TI.zero {P : Program} {t : TypeId} {z : Value} {sz by_ : Nat} (h : TI P t z sz by_) (w : World) : (zeroValue t).run P w = .ok z w := by
  obtain ⟨i, hi, hz, hs, hb⟩ := h
  simp [zeroValue, typeInfo, hi, hz]

/-- Is the type a struct or an array? -/
def TA (P : Program) (t : TypeId) (b : Bool) : Prop := ∃ d, P.underlying t = some d ∧ (match d with | .struct _ | .array _ _ => true | _ => false) = b
theorem TA.run {P : Program} {t : TypeId} {b : Bool} (h : TA P t b) (w : World) : (isAgg t).run P w = .ok b w := by
  obtain ⟨d, hd, rfl⟩ := h
  simp only [isAgg, Sem.run_bind, run_underlying hd]
  cases d <;> rfl

def evs (L : List (Nat × Value)) : List Operand → Option (List Value)
  | [] => some []
  | x :: r => match ev L x, evs L r with
    | some v, some vs => some (v :: vs)
    | _, _ => none
theorem Fr.evals {n : Nat} {D : List Deferred} {a : Act} {L : List (Nat × Value)} (h : Fr n D a L) : ∀ {xs : List Operand} {vs : List Value}, evs L xs = some vs → xs.map a.eval = vs
  | [], vs, hv => by simp [evs] at hv; simp [hv]
  | x :: r, vs, hv => by
    simp only [evs] at hv
    split at hv
    · rename_i v vs' h1 h2
      injection hv with hv
      subst hv
      simp [h.eval h1, h.evals h2]
    · cases hv

/-! ### Lists of cells -/
def getL : List Value → Nat → Option Value
  | [], _ => none
  | v :: _, 0 => some v
  | _ :: r, n + 1 => getL r n
theorem getL_eq : ∀ (l : List Value) (n : Nat), getL l n = l[n]?
  | [], _ => by simp [getL]
  | v :: _, 0 => by simp [getL]
  | _ :: r, n + 1 => by simp [getL, getL_eq r n]
def takeL : List Value → Nat → Option (List Value)
  | _, 0 => some []
  | [], _ + 1 => none
  | v :: r, n + 1 => match takeL r n with
    | some l => some (v :: l)
    | none => none
theorem takeL_eq : ∀ (l : List Value) (n : Nat) (r : List Value), takeL l n = some r → r = l.take n ∧ n ≤ l.length
  | _, 0, r, h => by simp [takeL] at h; simp [h.symm]
  | [], _ + 1, r, h => by simp [takeL] at h
  | v :: l, n + 1, r, h => by
    simp only [takeL] at h
    split at h
    · rename_i l' hl
      injection h with h
      subst h
      obtain ⟨h1, h2⟩ := takeL_eq l n l' hl
      subst h1
      exact ⟨rfl, by simpa using h2⟩
    · cases h
def cutL : List Value → Nat → Nat → Option (List Value)
  | l, 0, n => takeL l n
  | [], _ + 1, _ => none
  | _ :: r, o + 1, n => cutL r o n
theorem cutL_eq : ∀ (l : List Value) (o n : Nat) (r : List Value), cutL l o n = some r → r = (l.drop o).take n ∧ o + n ≤ l.length
  | l, 0, n, r, h => by
    have := takeL_eq l n r (by cases l <;> simpa [cutL] using h)
    simpa using this
  | [], _ + 1, _, r, h => by simp [cutL] at h
  | v :: l, o + 1, n, r, h => by
    have := cutL_eq l o n r (by simpa [cutL] using h)
    refine ⟨by simpa using this.1, by have := this.2; simp; omega⟩
theorem cutL_get {l : List Value} {o n : Nat} {r : List Value} (h : cutL l o n = some r) : r.length = n ∧ ∀ i u, r[i]? = some u → l[o + i]? = some u := by
  obtain ⟨h1, h2⟩ := cutL_eq l o n r h
  subst h1
  refine ⟨by simp; omega, fun i u hu => ?_⟩
  rw [List.getElem?_take] at hu
  split at hu
  · simpa using hu
  · cases hu

/-! ### Two kinds of facts -/
/-- A block of one's own, its cells known. -/
def blk (b : Nat) (t : TypeId) (cs : List Value) : Fact where
  own k := k = b
  ok _ w := w.heap[b]? = some (.cells cs.toArray t (0, 0))
  lt S w k h hk := by subst hk; exact (Array.getElem?_eq_some_iff.1 h).1
  stable S S' w w' h _ hb := by rw [hb b (.inl rfl)]; exact h
/-- Settled cells. -/
def cellsAt (p : Addr) (cs : List Value) : Fact where
  own _ := False
  ok S w := S p.block ∧ ∀ i u, cs[i]? = some u → w.cell? (p.add i) = some u
  lt S w k h hk := hk.elim
  stable S S' w w' h hs hb := ⟨hs _ h.1, fun i u hu => by
    have hblk : (p.add i).block = p.block := by unfold Addr.add; split <;> rfl
    rw [World.cell?_of_block (w := w) (by rw [hblk]; exact hb _ (.inr h.1))]
    exact h.2 i u hu⟩
/-- Whatever is said of the settled alone. -/
def pers (p : (Nat → Prop) → World → Prop) (st : ∀ S S' w w', p S w → (∀ k, S k → S' k) → (∀ k, S k → w'.heap[k]? = w.heap[k]?) → p S' w') : Fact where
  own _ := False
  ok := p
  lt S w k h hk := hk.elim
  stable S S' w w' h hs hb := st S S' w w' h hs fun k hk => hb k (.inr hk)

theorem blk_cell {b o : Nat} {t : TypeId} {cs : List Value} {S : Nat → Prop} {w : World} (h : (blk b t cs).ok S w) {v : Value} (hv : cs[o]? = some v) : w.cell? ⟨b, o, none⟩ = some v := by
  have h : w.heap[b]? = some (.cells cs.toArray t (0, 0)) := h
  simp [World.cell?, h, hv]
theorem add_plain (g o j : Nat) : (⟨g, o, none⟩ : Addr).add j = ⟨g, o + j, none⟩ := by unfold Addr.add; split <;> simp_all

section
variable {P : Program} {G : Ctx} {n : Nat} {D : List Deferred} {L : List (Nat × Value)} {Γ : List Fact}
variable {d : Option Nat} {ty : TypeId} {ps : String} {af : Array Edge} {gd : Option (Nat × Bool)}

theorem Qt.move {x : Operand} {v : Value} (hv : ev L x = some v) : Qt P G n D ⟨d, .move x, ty, ps, af, gd⟩ L Γ v := fun a w S hf hh => by
  simp [execOp, hf.eval hv]
theorem Qt.assign {x : Operand} {v : Value} (hv : ev L x = some v) : Qt P G n D ⟨d, .assign x, ty, ps, af, gd⟩ L Γ v := fun a w S hf hh => by
  simp [execOp, hf.eval hv]
theorem Qt.pick {c x y : Operand} {b : Bool} {v u : Value} (hc : ev L c = some (.bool b)) (hx : ev L x = some v) (hy : ev L y = some u) : Qt P G n D ⟨d, .pick c x y, ty, ps, af, gd⟩ L Γ (if b then v else u) := fun a w S hf hh => by
  simp [execOp, hf.eval hc, hf.eval hx, hf.eval hy, asBool]
theorem Qt.pickT {c x y : Operand} {v : Value} (hc : ev L c = some (.bool true)) (hx : ev L x = some v) : Qt P G n D ⟨d, .pick c x y, ty, ps, af, gd⟩ L Γ v := fun a w S hf hh => by
  simp [execOp, hf.eval hc, hf.eval hx, asBool]
theorem Qt.pickF {c x y : Operand} {u : Value} (hc : ev L c = some (.bool false)) (hy : ev L y = some u) : Qt P G n D ⟨d, .pick c x y, ty, ps, af, gd⟩ L Γ u := fun a w S hf hh => by
  simp [execOp, hf.eval hc, hf.eval hy, asBool]

/-! whole numbers -/
section
variable {t u : TypeId} {x y : Operand} {k : IntKind} {i j : Int}
theorem Qt.addW (hx : ev L x = some (.int k i)) (hy : ev L y = some (.int k j)) : Qt P G n D ⟨d, .binOp .add t x y u, ty, ps, af, gd⟩ L Γ (.int k (k.wrap (i + j))) := fun a w S hf hh => by
  simp [execOp, hf.eval hx, hf.eval hy, eqGuard, binOp, Op.intArith]
theorem Qt.subW (hx : ev L x = some (.int k i)) (hy : ev L y = some (.int k j)) : Qt P G n D ⟨d, .binOp .sub t x y u, ty, ps, af, gd⟩ L Γ (.int k (k.wrap (i - j))) := fun a w S hf hh => by
  simp [execOp, hf.eval hx, hf.eval hy, eqGuard, binOp, Op.intArith]
theorem Qt.mulW (hx : ev L x = some (.int k i)) (hy : ev L y = some (.int k j)) : Qt P G n D ⟨d, .binOp .mul t x y u, ty, ps, af, gd⟩ L Γ (.int k (k.wrap (i * j))) := fun a w S hf hh => by
  simp [execOp, hf.eval hx, hf.eval hy, eqGuard, binOp, Op.intArith]
theorem wrap_in64 (m : Int) (h : -9223372036854775808 ≤ m ∧ m ≤ 9223372036854775807) : IntKind.i64.wrap m = m := by
  unfold IntKind.wrap
  simp [IntKind.bits, IntKind.signed] <;> omega
theorem Qt.add (hx : ev L x = some (.int .i64 i)) (hy : ev L y = some (.int .i64 j)) (hb : -9223372036854775808 ≤ i + j ∧ i + j ≤ 9223372036854775807) : Qt P G n D ⟨d, .binOp .add t x y u, ty, ps, af, gd⟩ L Γ (.int .i64 (i + j)) := by
  have := Qt.addW (P := P) (G := G) (n := n) (D := D) (Γ := Γ) (d := d) (ty := ty) (ps := ps) (af := af) (gd := gd) (t := t) (u := u) hx hy
  rwa [wrap_in64 _ hb] at this
theorem Qt.sub (hx : ev L x = some (.int .i64 i)) (hy : ev L y = some (.int .i64 j)) (hb : -9223372036854775808 ≤ i - j ∧ i - j ≤ 9223372036854775807) : Qt P G n D ⟨d, .binOp .sub t x y u, ty, ps, af, gd⟩ L Γ (.int .i64 (i - j)) := by
  have := Qt.subW (P := P) (G := G) (n := n) (D := D) (Γ := Γ) (d := d) (ty := ty) (ps := ps) (af := af) (gd := gd) (t := t) (u := u) hx hy
  rwa [wrap_in64 _ hb] at this
theorem Qt.mul (hx : ev L x = some (.int .i64 i)) (hy : ev L y = some (.int .i64 j)) (hb : -9223372036854775808 ≤ i * j ∧ i * j ≤ 9223372036854775807) : Qt P G n D ⟨d, .binOp .mul t x y u, ty, ps, af, gd⟩ L Γ (.int .i64 (i * j)) := by
  have := Qt.mulW (P := P) (G := G) (n := n) (D := D) (Γ := Γ) (d := d) (ty := ty) (ps := ps) (af := af) (gd := gd) (t := t) (u := u) hx hy
  rwa [wrap_in64 _ hb] at this
theorem Qt.rem (hx : ev L x = some (.int k i)) (hy : ev L y = some (.int k j)) (h0 : 0 ≤ i) (hj : 0 < j) : Qt P G n D ⟨d, .binOp .rem t x y u, ty, ps, af, gd⟩ L Γ (.int k (i % j)) := fun a w S hf hh => by
  have hne : ¬ j = 0 := by omega
  simp [execOp, hf.eval hx, hf.eval hy, eqGuard, binOp, Op.intDiv, hne, Int.tmod_eq_emod_of_nonneg h0]
theorem Qt.quo (hx : ev L x = some (.int .i64 i)) (hy : ev L y = some (.int .i64 j)) (h0 : 0 ≤ i) (hj : 0 < j) (hi : i ≤ 9223372036854775807) : Qt P G n D ⟨d, .binOp .quo t x y u, ty, ps, af, gd⟩ L Γ (.int .i64 (i / j)) := fun a w S hf hh => by
  have hne : ¬ j = 0 := by omega
  have h1 : 0 ≤ i / j := Int.ediv_nonneg h0 (by omega)
  have h2 : i / j ≤ i := Int.ediv_le_self j h0
  simp [execOp, hf.eval hx, hf.eval hy, eqGuard, binOp, Op.intDiv, hne, Int.tdiv_eq_ediv_of_nonneg h0]
  rw [wrap_in64 _ (by omega)]
theorem Qt.lss (hx : ev L x = some (.int k i)) (hy : ev L y = some (.int k j)) : Qt P G n D ⟨d, .binOp .lss t x y u, ty, ps, af, gd⟩ L Γ (.bool (decide (i < j))) := fun a w S hf hh => by
  simp [execOp, hf.eval hx, hf.eval hy, eqGuard, binOp, Op.intCmp]
theorem Qt.leq (hx : ev L x = some (.int k i)) (hy : ev L y = some (.int k j)) : Qt P G n D ⟨d, .binOp .leq t x y u, ty, ps, af, gd⟩ L Γ (.bool (decide (i ≤ j))) := fun a w S hf hh => by
  simp [execOp, hf.eval hx, hf.eval hy, eqGuard, binOp, Op.intCmp]
theorem Qt.gtr (hx : ev L x = some (.int k i)) (hy : ev L y = some (.int k j)) : Qt P G n D ⟨d, .binOp .gtr t x y u, ty, ps, af, gd⟩ L Γ (.bool (decide (i > j))) := fun a w S hf hh => by
  simp [execOp, hf.eval hx, hf.eval hy, eqGuard, binOp, Op.intCmp]
theorem Qt.geq (hx : ev L x = some (.int k i)) (hy : ev L y = some (.int k j)) : Qt P G n D ⟨d, .binOp .geq t x y u, ty, ps, af, gd⟩ L Γ (.bool (decide (i ≥ j))) := fun a w S hf hh => by
  simp [execOp, hf.eval hx, hf.eval hy, eqGuard, binOp, Op.intCmp]
theorem Qt.eql (hx : ev L x = some (.int k i)) (hy : ev L y = some (.int k j)) : Qt P G n D ⟨d, .binOp .eql t x y u, ty, ps, af, gd⟩ L Γ (.bool (decide (i = j))) := fun a w S hf hh => by
  have : (i == j) = decide (i = j) := by by_cases h : i = j <;> simp [h]
  simp [execOp, hf.eval hx, hf.eval hy, eqGuard, binOp, Op.intCmp, this]
theorem Qt.neq (hx : ev L x = some (.int k i)) (hy : ev L y = some (.int k j)) : Qt P G n D ⟨d, .binOp .neq t x y u, ty, ps, af, gd⟩ L Γ (.bool (decide (i ≠ j))) := fun a w S hf hh => by
  have : (i != j) = decide (i ≠ j) := by by_cases h : i = j <;> simp [h]
  simp [execOp, hf.eval hx, hf.eval hy, eqGuard, binOp, Op.intCmp, this]
theorem Qt.conv {k' : IntKind} {src dst : TypeId} {u : TypeDesc} (hs : P.underlying src = some u) (hd : P.underlying dst = some (.int k')) (hx : ev L x = some (.int k i)) : Qt P G n D ⟨d, .convert src dst x, ty, ps, af, gd⟩ L Γ (.int k' (k'.wrap i)) := fun a w S hf hh => by
  simp [execOp, hf.eval hx, convert, run_underlying hs, run_underlying hd, Conv.intToInt]
end
/-! strings, bools -/
section
variable {t u : TypeId} {x y : Operand} {s r : ByteArray}
theorem toList_inj (s r : ByteArray) : (s.toList == r.toList) = decide (s = r) := by
  by_cases h : s = r
  · subst h; simp
  · have : s.toList ≠ r.toList := fun e => h (by
      have e' : s.data.toList = r.data.toList := by simpa [ByteArray.toList_eq] using e
      cases s; cases r; simp at e'; simp [e'])
    simp [h, this]
theorem Qt.seql (hx : ev L x = some (.string s)) (hy : ev L y = some (.string r)) : Qt P G n D ⟨d, .binOp .eql t x y u, ty, ps, af, gd⟩ L Γ (.bool (decide (s = r))) := fun a w S hf hh => by
  simp [execOp, hf.eval hx, hf.eval hy, eqGuard, binOp, Op.stringOp, toList_inj]
theorem Qt.sneq (hx : ev L x = some (.string s)) (hy : ev L y = some (.string r)) : Qt P G n D ⟨d, .binOp .neq t x y u, ty, ps, af, gd⟩ L Γ (.bool (decide (s ≠ r))) := fun a w S hf hh => by
  simp [execOp, hf.eval hx, hf.eval hy, eqGuard, binOp, Op.stringOp, toList_inj]
theorem Qt.sadd (hx : ev L x = some (.string s)) (hy : ev L y = some (.string r)) (hb : s.size + r.size ≤ 9223372036854775807) : Qt P G n D ⟨d, .binOp .add t x y u, ty, ps, af, gd⟩ L Γ (.string (s ++ r)) := fun a w S hf hh => by
  have : ¬ (((s.size + r.size : Nat) : Int) > IntKind.i64.max) := by
    have : IntKind.i64.max = 9223372036854775807 := rfl
    omega
  simp [execOp, hf.eval hx, hf.eval hy, eqGuard, binOp, Op.stringOp]
  simpa using this
theorem Qt.not {b : Bool} (hx : ev L x = some (.bool b)) : Qt P G n D ⟨d, .unOp .not t x, ty, ps, af, gd⟩ L Γ (.bool (!b)) := fun a w S hf hh => by
  simp [execOp, hf.eval hx, Op.unary]
theorem Qt.notD {p : Prop} [Decidable p] (hx : ev L x = some (.bool (decide p))) : Qt P G n D ⟨d, .unOp .not t x, ty, ps, af, gd⟩ L Γ (.bool (decide (¬ p))) := fun a w S hf hh => by
  simp [execOp, hf.eval hx, Op.unary]
end
theorem Qt.extract {x : Operand} {vs : List Value} {i : Nat} {v : Value} (hx : ev L x = some (.tuple vs.toArray)) (hi : getL vs i = some v) : Qt P G n D ⟨d, .extract x i, ty, ps, af, gd⟩ L Γ v := fun a w S hf hh => by
  rw [getL_eq] at hi
  simp [execOp, hf.eval hx, Instr.extract, hi]
theorem Qt.makeFunc {fn : Fn} {fs cs : List Operand} {vs us : List Value} (hf' : evs L fs = some vs) (hc : evs L cs = some us) : Qt P G n D ⟨d, .makeFunc fn fs.toArray cs.toArray, ty, ps, af, gd⟩ L Γ (.func fn vs.toArray us.toArray) := fun a w S hf hh => by
  simp [execOp, Instr.makeFunc, hf.evals hf', hf.evals hc]

/-! addresses -/
/-- Field f of struct type s lies at cell o, and is wider than nothing. -/
def TF (P : Program) (s : TypeId) (f o : Nat) : Prop := ∃ fs fd i, P.underlying s = some (.struct fs) ∧ fs[f]? = some fd ∧ fd.offset = o ∧ P.info? fd.type = some i ∧ i.size ≠ 0
theorem Qt.fieldAddr {s : TypeId} {x : Operand} {f o : Nat} {p : Addr} (ht : TF P s f o) (hx : ev L x = some (.pointer (some p))) : Qt P G n D ⟨d, .fieldAddr s x f, ty, ps, af, gd⟩ L Γ (.pointer (some (p.add o))) := fun a w S hf hh => by
  obtain ⟨fs, fd, i, h1, h2, h3, h4, h5⟩ := ht
  have hs : (sizeOf fd.type).run P w = .ok i.size w := by simp [sizeOf, typeInfo, h4]
  have hp : (fieldPlace p fd).run P w = .ok (p.add o) w := by
    unfold fieldPlace
    simp only [Sem.run_bind, hs, Result.andThen_ok, if_neg h5, h3, Sem.run_pure]
  have hi : (Instr.fieldAt s (.pointer (some p)) f).run P w = .ok (.pointer (some (p.add o))) w := by
    unfold Instr.fieldAt
    simp only [Sem.run_bind, run_underlying h1, Result.andThen_ok, h2, Instr.sureAddr, Sem.run_pure, hp]
  simp only [execOp, hf.eval hx, Sem.run_bind, hi, Result.andThen_ok, Sem.run_pure]
theorem Qt.fieldAddrB {s : TypeId} {x : Operand} {f o b q : Nat} (ht : TF P s f o) (hx : ev L x = some (.pointer (some ⟨b, q, none⟩))) : Qt P G n D ⟨d, .fieldAddr s x f, ty, ps, af, gd⟩ L Γ (.pointer (some ⟨b, q + o, none⟩)) := by
  have := Qt.fieldAddr (P := P) (G := G) (n := n) (D := D) (Γ := Γ) (d := d) (ty := ty) (ps := ps) (af := af) (gd := gd) ht hx
  rwa [add_plain] at this
theorem Qt.indexAddr {t e : TypeId} {x y : Operand} {z : Value} {sz by_ : Nat} {p : Addr} {m c : Nat} {k : IntKind} {j : Int} (ht : P.underlying t = some (.slice e)) (hi : TI P e z sz by_) (hx : ev L x = some (.slice (some p) m c)) (hy : ev L y = some (.int k j)) (h0 : 0 ≤ j) (h1 : j < m) :
    Qt P G n D ⟨d, .indexAddr t x y, ty, ps, af, gd⟩ L Γ (.pointer (some (p.add (j.toNat * sz)))) := fun a w S hf hh => by
  simp [execOp, hf.eval hx, hf.eval hy, Instr.indexAt, asIntOf, run_underlying ht, h0, h1, hi.size]

theorem Qt.indexAddrE {t e : TypeId} {x y : Operand} {z : Value} {sz by_ : Nat} {A : Option Addr} {p : Addr} {m c : Nat} {k : IntKind} (j : Nat) (hA : A = some p) (ht : P.underlying t = some (.slice e)) (hi : TI P e z sz by_) (hx : ev L x = some (.slice A m c)) (hy : ev L y = some (.int k (j : Int))) (h1 : j < m) :
    Qt P G n D ⟨d, .indexAddr t x y, ty, ps, af, gd⟩ L Γ (.pointer (some (p.add (j * sz)))) := by
  subst hA
  exact Qt.indexAddr ht hi hx hy (Int.natCast_nonneg j) (Int.ofNat_lt.2 h1)

/-! memory read -/
theorem Qt.loadB {t : TypeId} {x : Operand} {b o : Nat} {tb : TypeId} {cs : List Value} {v : Value} (i : Nat) (hF : Γ[i]? = some (blk b tb cs)) (ht : TA P t false) (hx : ev L x = some (.pointer (some ⟨b, o, none⟩))) (hv : getL cs o = some v) : Qt P G n D ⟨d, .load t x, ty, ps, af, gd⟩ L Γ v := fun a w S hf hh => by
  rw [getL_eq] at hv
  have hc := blk_cell (hh.facts _ (List.mem_of_getElem? hF)) hv
  simp [execOp, hf.eval hx, Instr.loadAt, Instr.sureAddr, loadVar, ht.run, hc]
theorem Qt.loadC {t : TypeId} {x : Operand} {p : Addr} {o : Nat} {cs : List Value} {v : Value} (i : Nat) (hF : Γ[i]? = some (cellsAt p cs)) (ht : TA P t false) (hx : ev L x = some (.pointer (some (p.add o)))) (hv : getL cs o = some v) : Qt P G n D ⟨d, .load t x, ty, ps, af, gd⟩ L Γ v := fun a w S hf hh => by
  rw [getL_eq] at hv
  have hc := (hh.facts _ (List.mem_of_getElem? hF)).2 o v hv
  simp [execOp, hf.eval hx, Instr.loadAt, Instr.sureAddr, loadVar, ht.run, hc]
theorem Qt.loadBA {t : TypeId} {x : Operand} {b o : Nat} {tb : TypeId} {cs vs : List Value} {z : Value} {sz by_ : Nat} (i : Nat) (hF : Γ[i]? = some (blk b tb cs)) (ht : TA P t true) (hi : TI P t z sz by_) (hx : ev L x = some (.pointer (some ⟨b, o, none⟩))) (hv : cutL cs o sz = some vs) : Qt P G n D ⟨d, .load t x, ty, ps, af, gd⟩ L Γ (.agg vs.toArray) := fun a w S hf hh => by
  obtain ⟨hl, hg⟩ := cutL_get hv
  have hr := run_loadCells_list (P := P) (w := w) ⟨b, o, none⟩ vs (fun j v hj => by
    rw [add_plain]; exact blk_cell (hh.facts _ (List.mem_of_getElem? hF)) (hg j v hj))
  rw [hl] at hr
  simp [execOp, hf.eval hx, Instr.loadAt, Instr.sureAddr, loadVar, ht.run, hi.size, hr]
theorem Addr.add_add (p : Addr) (i j : Nat) : (p.add i).add j = p.add (i + j) := by
  unfold Addr.add
  by_cases h1 : i = 0 <;> by_cases h2 : j = 0 <;> simp [h1, h2, Nat.add_assoc]
theorem Qt.loadCA {t : TypeId} {x : Operand} {p : Addr} {o : Nat} {cs vs : List Value} {z : Value} {sz by_ : Nat} (i : Nat) (hF : Γ[i]? = some (cellsAt p cs)) (ht : TA P t true) (hi : TI P t z sz by_) (hx : ev L x = some (.pointer (some (p.add o)))) (hv : cutL cs o sz = some vs) : Qt P G n D ⟨d, .load t x, ty, ps, af, gd⟩ L Γ (.agg vs.toArray) := fun a w S hf hh => by
  obtain ⟨hl, hg⟩ := cutL_get hv
  have hr := run_loadCells_list (P := P) (w := w) (p.add o) vs (fun j v hj => by
    rw [Addr.add_add]; exact (hh.facts _ (List.mem_of_getElem? hF)).2 (o + j) v (hg j v hj))
  rw [hl] at hr
  simp [execOp, hf.eval hx, Instr.loadAt, Instr.sureAddr, loadVar, ht.run, hi.size, hr]

/-! lengths, cuts -/
theorem Qt.lenS {x : Operand} {t e : TypeId} {A : Option Addr} {m c : Nat} (ht : P.underlying t = some (.slice e)) (hx : ev L x = some (.slice A m c)) : Qt P G n D ⟨d, .call ⟨.builtin .len, #[x], #[t]⟩, ty, ps, af, gd⟩ L Γ (.int .i64 m) := fun a w S hf hh => by
  simp [execOp, resolve, invoke, builtin, Builtin.len_, run_underlying ht, hf.eval hx, goInt]
theorem Qt.lenStr {x : Operand} {t : TypeId} {s : ByteArray} (ht : P.underlying t = some .string) (hx : ev L x = some (.string s)) : Qt P G n D ⟨d, .call ⟨.builtin .len, #[x], #[t]⟩, ty, ps, af, gd⟩ L Γ (.int .i64 s.size) := fun a w S hf hh => by
  simp [execOp, resolve, invoke, builtin, Builtin.len_, run_underlying ht, hf.eval hx, goInt]
theorem Qt.max2 {x y : Operand} {t u : TypeId} {k : IntKind} {i j : Int} (hx : ev L x = some (.int k i)) (hy : ev L y = some (.int k j)) : Qt P G n D ⟨d, .call ⟨.builtin .max, #[x, y], #[t, u]⟩, ty, ps, af, gd⟩ L Γ (.int k (if j > i then j else i)) := fun a w S hf hh => by
  simp [execOp, resolve, invoke, builtin, Builtin.max_, hf.eval hx, hf.eval hy, Builtin.max2]
theorem Qt.min2 {x y : Operand} {t u : TypeId} {k : IntKind} {i j : Int} (hx : ev L x = some (.int k i)) (hy : ev L y = some (.int k j)) : Qt P G n D ⟨d, .call ⟨.builtin .min, #[x, y], #[t, u]⟩, ty, ps, af, gd⟩ L Γ (.int k (if j < i then j else i)) := fun a w S hf hh => by
  simp [execOp, resolve, invoke, builtin, Builtin.min_, hf.eval hx, hf.eval hy, Builtin.min2]
/-- xs[i:] -/
theorem Qt.cutLow {x y : Operand} {t e : TypeId} {A : Option Addr} {m c : Nat} {k : IntKind} {i : Nat} {z : Value} {sz by_ : Nat} (ht : P.underlying t = some (.slice e)) (hi : TI P e z sz by_) (hx : ev L x = some (.slice A m c)) (hy : ev L y = some (.int k (i : Int))) (h1 : i ≤ m) (hmc : m ≤ c) :
    Qt P G n D ⟨d, .slice t x (some y) none none, ty, ps, af, gd⟩ L Γ (.slice (if c = i then A else A.map (·.add (i * sz))) (m - i) (c - i)) := fun a w S hf hh => by
  simp [execOp, hf.eval hx, hf.eval hy, Instr.sliceAt, Instr.slice, Instr.sliceBounds, Instr.sliceBound, run_underlying ht, asIntOf, h1, hi.size, Int.ofNat_le.2 h1]
/-- xs[:j] -/
theorem Qt.cutHigh {x y : Operand} {t e : TypeId} {A : Option Addr} {m c : Nat} {k : IntKind} {j : Nat} {z : Value} {sz by_ : Nat} (ht : P.underlying t = some (.slice e)) (hi : TI P e z sz by_) (hx : ev L x = some (.slice A m c)) (hy : ev L y = some (.int k (j : Int))) (h1 : j ≤ c) :
    Qt P G n D ⟨d, .slice t x none (some y) none, ty, ps, af, gd⟩ L Γ (.slice A j c) := fun a w S hf hh => by
  have : (if c = 0 then A else A.map (·.add (0 * sz))) = A := by
    split
    · rfl
    · cases A <;> simp [Addr.add]
  simp [execOp, hf.eval hx, hf.eval hy, Instr.sliceAt, Instr.slice, Instr.sliceBounds, Instr.sliceBound, run_underlying ht, asIntOf, h1, hi.size, Int.ofNat_le.2 h1]
  simpa using this
/-- a slice held against nil -/
theorem Qt.nilEq {x : Operand} {t u e : TypeId} {A : Option Addr} {m c : Nat} (ht : P.underlying t = some (.slice e)) (hx : ev L x = some (.slice A m c)) : Qt P G n D ⟨d, .binOp .eql t x (.const (.slice none 0 0)) u, ty, ps, af, gd⟩ L Γ (.bool A.isNone) := fun a w S hf hh => by
  have h : ∀ k : Nat, (Op.equalIn (k + 1) t (.slice A m c) (.slice none 0 0)).run P w = .ok A.isNone w := fun k => by
    cases A <;> simp [Op.equalIn, run_underlying ht]
  have hb : (binOp .eql t (.slice A m c) (.slice none 0 0)).run P w = .ok (.bool A.isNone) w := by
    simp only [binOp]
    simp [Op.equal, Op.maxDepth, h 9999]
  have he : (eqGuard .eql t x (.const (.slice none 0 0)) (.slice A m c) (.slice none 0 0)).run P w = .ok () w := by simp [eqGuard]
  have hc : a.eval (.const (.slice none 0 0)) = .slice none 0 0 := rfl
  simp only [execOp, hf.eval hx, hc, Sem.run_bind, he, Result.andThen_ok, hb, Sem.run_pure]
end
end Go.Proofs.YtolggjmgfijjfaaGreatDoor.Sep

/- The operations' rules, those that change memory; slices that are read and slices of one's own; calls. Nothing here speaks of a program. -/
namespace Go.Proofs.YtolggjmgfijjfaaGreatDoor.Sep
open Go

/-! ### A world that keeps what isn't owned -/
structure Keeps (O : Nat → Prop) (w w' : World) : Prop where
  os : w'.os = w.os
  tape : w'.tape = w.tape
  output : w'.output = w.output
  size : w.heap.size ≤ w'.heap.size
  block : ∀ k, k < w.heap.size → ¬ O k → w'.heap[k]? = w.heap[k]?
  drawn : w.drawn ≤ w'.drawn
theorem Keeps.refl (O : Nat → Prop) (w : World) : Keeps O w w := ⟨rfl, rfl, rfl, Nat.le_refl _, fun _ _ _ => rfl, Nat.le_refl _⟩
theorem Keeps.alloc (O : Nat → Prop) (w : World) (o : Obj) : Keeps O w (w.alloc o) := ⟨rfl, rfl, rfl, by simp, fun k hk _ => (World.grownBy_alloc w o none).block k hk (by simp), Nat.le_refl _⟩
theorem Keeps.setRow {O : Nat → Prop} (w : World) (g : Nat) (cs : Array Value) (h : O g) : Keeps O w (w.setRow g cs) := ⟨rfl, rfl, rfl, by simp, fun k _ hk => setRow_other w g k cs (fun e => hk (by rw [e]; exact h)), Nat.le_refl _⟩
theorem Keeps.grown {O : Nat → Prop} {w w' : World} {row : Option Nat} (h : w.grownBy w' row) (hr : ∀ k, row = some k → O k) (hd : w.drawn ≤ w'.drawn) : Keeps O w w' := ⟨h.os, h.tape, h.output, h.size, fun k hk ho => h.block k hk (fun e => ho (hr k e.symm)), hd⟩

theorem Hold.list {Γp Δ : List Fact} {S S' : Nat → Prop} {w w' : World} (hs : Start Γp S w) (hk : Keeps (Own Γp) w w') (hok : ∀ F, F ∈ Δ → F.ok S' w') (hp : Δ.Pairwise Apart)
    (hown : ∀ F, F ∈ Δ → ∀ k, F.own k → ¬ S' k ∧ (Own Γp k ∨ w.heap.size ≤ k)) (hsub : ∀ k, S' k → k < w'.heap.size) (hg : ∀ k, S k → S' k) (ho : ∀ k, S' k → S k ∨ Own Γp k ∨ w.heap.size ≤ k) : Hold ⟨w, S, Own Γp, True⟩ Δ S' w' :=
  ⟨hok, hp, hown, hsub, hg, ho, hk.block, hk.size, hk.os, hk.tape, hk.output, fun _ => hk.drawn⟩
theorem Start.notS {Γp : List Fact} {S : Nat → Prop} {w : World} (hs : Start Γp S w) {k : Nat} (h : Own Γp k ∨ w.heap.size ≤ k) : ¬ S k := fun hS => by
  rcases h with ⟨F, hF, hk⟩ | h
  · exact (hs.fresh F hF k hk).1 hS
  · exact absurd (hs.sub k hS) (Nat.not_lt.2 h)
theorem Hold.none {Γp : List Fact} {S : Nat → Prop} {w w' : World} (hs : Start Γp S w) (hk : Keeps (Own Γp) w w') : Hold ⟨w, S, Own Γp, True⟩ [] S w' :=
  Hold.list hs hk (fun F h => by cases h) .nil (fun F h => by cases h) (fun k h => Nat.lt_of_lt_of_le (hs.sub k h) hk.size) (fun _ h => h) (fun _ h => .inl h)
theorem Hold.one {Γp : List Fact} {S : Nat → Prop} {w w' : World} (hs : Start Γp S w) (hk : Keeps (Own Γp) w w') (F : Fact) (hok : F.ok S w') (hown : ∀ k, F.own k → Own Γp k ∨ w.heap.size ≤ k) : Hold ⟨w, S, Own Γp, True⟩ [F] S w' :=
  Hold.list hs hk (fun X h => by obtain rfl : X = F := by simpa using h
                                 exact hok) (by simp) (fun X h k hX => by
    obtain rfl : X = F := by simpa using h
    exact ⟨hs.notS (hown k hX), hown k hX⟩) (fun k h => Nat.lt_of_lt_of_le (hs.sub k h) hk.size) (fun _ h => h) (fun _ h => .inl h)
theorem Own.mem {Γp : List Fact} {F : Fact} (h : F ∈ Γp) {k : Nat} (hk : F.own k) : Own Γp k := ⟨F, h, hk⟩
theorem Own.head {Γp : List Fact} {F : Fact} {k : Nat} (hk : F.own k) : Own (F :: Γp) k := ⟨F, List.mem_cons_self, hk⟩

/-! ### Writing into a list of cells -/
def pokeL : List Value → Nat → List Value → Option (List Value)
  | l, 0, [] => some l
  | [], 0, _ :: _ => none
  | _ :: r, 0, v :: vs => match pokeL r 0 vs with
    | some l => some (v :: l)
    | none => none
  | [], _ + 1, _ => none
  | x :: r, o + 1, vs => match pokeL r o vs with
    | some l => some (x :: l)
    | none => none
theorem pokeL_eq : ∀ (l : List Value) (o : Nat) (vs r : List Value), pokeL l o vs = some r → r = l.take o ++ vs ++ l.drop (o + vs.length) ∧ o + vs.length ≤ l.length
  | l, 0, [], r, h => by cases l <;> simp [pokeL] at h <;> simp [h]
  | [], 0, _ :: _, r, h => by simp [pokeL] at h
  | x :: l, 0, v :: vs, r, h => by
    simp only [pokeL] at h
    split at h
    · rename_i l' hl
      injection h with h
      subst h
      obtain ⟨h1, h2⟩ := pokeL_eq l 0 vs l' hl
      subst h1
      refine ⟨by simp, by simp at h2 ⊢; omega⟩
    · cases h
  | [], _ + 1, _, r, h => by simp [pokeL] at h
  | x :: l, o + 1, vs, r, h => by
    simp only [pokeL] at h
    split at h
    · rename_i l' hl
      injection h with h
      subst h
      obtain ⟨h1, h2⟩ := pokeL_eq l o vs l' hl
      subst h1
      refine ⟨?_, by simp; omega⟩
      have : o + 1 + vs.length = (o + vs.length) + 1 := by omega
      simp [this]
    · cases h
def ones : List Value → Bool
  | [] => true
  | v :: r => match v.oneCell' with
    | true => ones r
    | false => false
theorem ones_all : ∀ (l : List Value), ones l = true → ∀ v, v ∈ l → v.oneCell' = true
  | [], _, v, h => by cases h
  | x :: l, h, v, hv => by
    simp only [ones] at h
    split at h
    · rename_i hx
      rcases List.mem_cons.1 hv with rfl | hv
      · exact hx
      · exact ones_all l h v hv
    · cases h

section
variable {P : Program} {n : Nat} {D : List Deferred} {L : List (Nat × Value)}
variable {d : Option Nat} {ty : TypeId} {ps : String} {af : Array Edge} {gd : Option (Nat × Bool)}

/-! ### New variables, stores -/
theorem Ld.alloc {t : TypeId} {z : Value} {cs : List Value} {sz by_ : Nat} (hi : TI P t z sz by_) (hz : z.cells.toList = cs) : Ld P n D ⟨d, .alloc t, ty, ps, af, gd⟩ L [] fun v Δ => ∃ b, v = .pointer (some ⟨b, 0, none⟩) ∧ Δ = [blk b t cs] := by
  intro a hf w S hs
  refine ⟨.pointer (some ⟨w.heap.size, 0, none⟩), w.alloc (.cells z.cells t), _, S, .inl ?_, ⟨w.heap.size, rfl, rfl⟩, ?_⟩
  · simp [execOp, Instr.alloc, hi.zero, newVar, newRow]
  · refine Hold.one hs (Keeps.alloc _ _ _) _ ?_ (fun k hk => .inr (Nat.le_of_eq hk.symm))
    show (w.alloc (.cells z.cells t)).heap[w.heap.size]? = some (.cells cs.toArray t (0, 0))
    rw [heap_alloc_new, ← hz]
theorem Ld.box {t : TypeId} {x : Operand} {v : Value} {cs : List Value} (hx : ev L x = some v) (hz : v.cells.toList = cs) : Ld P n D ⟨d, .box t x, ty, ps, af, gd⟩ L [] fun v Δ => ∃ b, v = .pointer (some ⟨b, 0, none⟩) ∧ Δ = [blk b t cs] := by
  intro a hf w S hs
  refine ⟨.pointer (some ⟨w.heap.size, 0, none⟩), w.alloc (.cells v.cells t), _, S, .inl ?_, ⟨w.heap.size, rfl, rfl⟩, ?_⟩
  · simp [execOp, Instr.box, hf.eval hx, newVar, newRow]
  · refine Hold.one hs (Keeps.alloc _ _ _) _ ?_ (fun k hk => .inr (Nat.le_of_eq hk.symm))
    show (w.alloc (.cells v.cells t)).heap[w.heap.size]? = some (.cells cs.toArray t (0, 0))
    rw [heap_alloc_new, ← hz]
theorem run_storeAt {t : TypeId} {w : World} {b o : Nat} {tb : TypeId} {cs vs cs' : List Value} {v z : Value} {sz by_ : Nat} (hb : w.heap[b]? = some (.cells cs.toArray tb (0, 0))) (hi : TI P t z sz by_) (hv : v.cells.toList = vs) (hl : vs.length = sz) (h1 : ones vs = true) (hp : pokeL cs o vs = some cs') :
    (Instr.storeAt t (.pointer (some ⟨b, o, none⟩)) v).run P w = .ok () (w.setRow b cs'.toArray) := by
  obtain ⟨he, hle⟩ := pokeL_eq cs o vs cs' hp
  have hsz : v.cells.size = sz := by rw [← hl, ← hv]; simp
  have hst := run_storeCells_at P b o tb vs 0 cs.toArray w hb (by simpa using hle) (ones_all vs h1)
  simp only [Nat.add_zero] at hst
  simp only [Instr.storeAt, Instr.sureAddr, Sem.run_bind, Sem.run_pure, Result.andThen_ok, storeVar, hi.size, hsz, ne_eq, not_true_eq_false, if_false, hv]
  rw [hst, he]
theorem Ld.store {t : TypeId} {x y : Operand} {b o : Nat} {tb : TypeId} {cs vs cs' : List Value} {v z : Value} {sz by_ : Nat} (hi : TI P t z sz by_) (hx : ev L x = some (.pointer (some ⟨b, o, none⟩))) (hy : ev L y = some v) (hv : v.cells.toList = vs) (hl : vs.length = sz) (h1 : ones vs = true) (hp : pokeL cs o vs = some cs') :
    Ld P n D ⟨d, .store t x y, ty, ps, af, gd⟩ L [blk b tb cs] fun v Δ => Δ = [blk b tb cs'] := by
  intro a hf w S hs
  have hb : w.heap[b]? = some (.cells cs.toArray tb (0, 0)) := hs.facts (blk b tb cs) List.mem_cons_self
  refine ⟨undef, w.setRow b cs'.toArray, _, S, .inr ⟨?_, rfl⟩, rfl, ?_⟩
  · simp [execOp, hf.eval hx, hf.eval hy, run_storeAt hb hi hv hl h1 hp]
  · refine Hold.one hs (Keeps.setRow w b _ (Own.head (F := blk b tb cs) rfl)) _ ?_ (fun k hk => .inl (Own.head (F := blk b tb cs) hk))
    exact setRow_heap w b _ _ _ _ hb

/-! ### Elements, slices that are read -/
structure Kd (α : Type) where
  sz : Nat
  K : (Nat → Prop) → World → α → List Value → Prop
  len : ∀ S w x cs, K S w x cs → cs.length = sz
  one : ∀ S w x cs, K S w x cs → ∀ u, u ∈ cs → u.oneCell' = true
  stable : ∀ S S' w w' x cs, K S w x cs → (∀ k, S k → S' k) → (∀ k, S k → w'.heap[k]? = w.heap[k]?) → K S' w' x cs
section
variable {α : Type}
def RdS (e : Kd α) (S : Nat → Prop) (w : World) (A : Option Addr) (xs : List α) : Prop :=
  ∀ (j : Nat) (h : j < xs.length), ∃ p, A = some p ∧ S p.block ∧ ∃ cs, e.K S w xs[j] cs ∧ ∀ i u, cs[i]? = some u → w.cell? (p.add (j * e.sz + i)) = some u
theorem add_block (p : Addr) (i : Nat) : (p.add i).block = p.block := by unfold Addr.add; split <;> rfl
theorem RdS.stable {e : Kd α} {S S' : Nat → Prop} {w w' : World} {A : Option Addr} {xs : List α} (h : RdS e S w A xs) (hs : ∀ k, S k → S' k) (hb : ∀ k, S k → w'.heap[k]? = w.heap[k]?) : RdS e S' w' A xs := fun j hj => by
  obtain ⟨p, hp, hS, cs, hK, hc⟩ := h j hj
  refine ⟨p, hp, hs _ hS, cs, e.stable _ _ _ _ _ _ hK hs hb, fun i u hu => ?_⟩
  rw [World.cell?_of_block (w := w) (by rw [add_block]; exact hb _ hS)]
  exact hc i u hu
/-- A slice of settled elements. -/
def rd (e : Kd α) (A : Option Addr) (c : Nat) (xs : List α) : Fact :=
  pers (fun S w => xs.length ≤ c ∧ c ≤ 9223372036854775807 ∧ RdS e S w A xs) fun S S' w w' h hs hb => ⟨h.1, h.2.1, h.2.2.stable hs hb⟩
/-- An element as it lies in cells. -/
def kf (e : Kd α) (x : α) (cs : List Value) : Fact := pers (fun S w => e.K S w x cs) fun S S' w w' h hs hb => e.stable _ _ _ _ _ _ h hs hb
def Reps (e : Kd α) (S : Nat → Prop) (w : World) (xs : List α) (l : List Value) : Prop :=
  l.length = xs.length * e.sz ∧ ∀ (j : Nat) (h : j < xs.length), e.K S w xs[j] ((l.drop (j * e.sz)).take e.sz)
theorem Reps.stable {e : Kd α} {S S' : Nat → Prop} {w w' : World} {xs : List α} {l : List Value} (h : Reps e S w xs l) (hs : ∀ k, S k → S' k) (hb : ∀ k, S k → w'.heap[k]? = w.heap[k]?) : Reps e S' w' xs l := ⟨h.1, fun j hj => e.stable _ _ _ _ _ _ (h.2 j hj) hs hb⟩
theorem Reps.nil (e : Kd α) (S : Nat → Prop) (w : World) : Reps e S w [] [] := ⟨by simp, fun j h => by simp at h⟩
theorem Reps.one {e : Kd α} {S : Nat → Prop} {w : World} {x : α} {cs : List Value} (h : e.K S w x cs) : Reps e S w [x] cs := by
  have hl := e.len _ _ _ _ h
  refine ⟨by simp [hl], fun j hj => ?_⟩
  have : j = 0 := by simpa using hj
  subst this
  simpa [← hl] using h
theorem Reps.append {e : Kd α} {S : Nat → Prop} {w : World} {xs ys : List α} {l m : List Value} (h : Reps e S w xs l) (k : Reps e S w ys m) : Reps e S w (xs ++ ys) (l ++ m) := by
  refine ⟨by rw [List.length_append, h.1, k.1, List.length_append, Nat.add_mul], fun j hj => ?_⟩
  rcases Nat.lt_or_ge j xs.length with hlt | hge
  · have h2 := h.2 j hlt
    have h1 : j * e.sz + e.sz ≤ l.length := by rw [h.1, ← Nat.succ_mul]; exact Nat.mul_le_mul_right _ hlt
    rw [List.getElem_append_left hlt, List.drop_append_of_le_length (by omega), List.take_append_of_le_length (by rw [List.length_drop]; omega)]
    exact h2
  · have hj' : j - xs.length < ys.length := by rw [List.length_append] at hj; omega
    have h2 := k.2 (j - xs.length) hj'
    rw [List.getElem_append_right hge]
    have : j * e.sz = l.length + (j - xs.length) * e.sz := by rw [h.1, ← Nat.add_mul]; congr 1; omega
    rw [this, List.drop_append, List.drop_eq_nil_of_le (by omega), List.nil_append]
    have h3 : l.length + (j - xs.length) * e.sz - l.length = (j - xs.length) * e.sz := by omega
    rw [h3]
    exact h2
theorem Reps.ones {e : Kd α} {S : Nat → Prop} {w : World} {xs : List α} {l : List Value} (h : Reps e S w xs l) : ∀ u, u ∈ l → u.oneCell' = true := by
  intro u hu
  obtain ⟨i, hi, rfl⟩ := List.mem_iff_getElem.1 hu
  rcases Nat.eq_zero_or_pos e.sz with h0 | h0
  · rw [h.1, h0] at hi; omega
  · have hj : i / e.sz < xs.length := (Nat.div_lt_iff_lt_mul h0).2 (by rw [← h.1]; exact hi)
    refine e.one _ _ _ _ (h.2 (i / e.sz) hj) _ (List.mem_iff_getElem?.2 ⟨i % e.sz, ?_⟩)
    rw [List.getElem?_take, if_pos (Nat.mod_lt _ h0), List.getElem?_drop]
    have : i / e.sz * e.sz + i % e.sz = i := by rw [Nat.mul_comm]; exact Nat.div_add_mod i e.sz
    rw [this]
    exact List.getElem?_eq_getElem hi
/-- A slice of one's own; nil too. -/
def row (e : Kd α) (t : TypeId) (A : Option Addr) (c : Nat) (xs : List α) : Fact where
  own k := ∃ p, A = some p ∧ p.block = k
  ok S w := ∃ l, w.ownsRow 0 t e.sz (.slice A xs.length c) xs.length l ∧ Reps e S w xs l
  lt S w k h hk := by
    obtain ⟨l, ho, _⟩ := h
    obtain ⟨p, rfl, rfl⟩ := hk
    exact (ho.lt p.block rfl).2
  stable S S' w w' h hs hb := by
    obtain ⟨l, ho, hr⟩ := h
    refine ⟨l, ⟨ho.1, ?_⟩, hr.stable hs fun k hk => hb k (.inr hk)⟩
    rcases ho.2 with h | ⟨g, cap, cur, h1, h2, h3, h4⟩
    · exact .inl h
    · refine .inr ⟨g, cap, cur, h1, h2, ?_, h4⟩
      injection h1 with h1
      rw [hb g (.inl ⟨_, h1, rfl⟩)]
      exact h3
theorem row_nil (e : Kd α) (t : TypeId) (S : Nat → Prop) (w : World) : (row e t none 0 []).ok S w := ⟨[], World.ownsRow_nil w 0 t e.sz, Reps.nil e S w⟩
theorem row_bounds {e : Kd α} {t : TypeId} {A : Option Addr} {c : Nat} {xs : List α} {S : Nat → Prop} {w : World} (h : (row e t A c xs).ok S w) : xs.length ≤ c ∧ c ≤ 9223372036854775807 := by
  obtain ⟨l, ho, _⟩ := h
  rcases ho.2 with ⟨h1, h2⟩ | ⟨g, cap, cur, h1, h2, h3, h4, h5, h6⟩
  · injection h1 with _ _ h1
    omega
  · injection h1 with _ _ h1
    simp only [maxLen] at h5
    omega

/-- What is read of a settled slice's element. -/
theorem rd_at {e : Kd α} {A : Option Addr} {c : Nat} {xs : List α} (j : Nat) (hj : j < xs.length) {Z : Type} {cells : Z → List Value} {facts : Z → List Fact}
    (V : ∀ S w cs, e.K S w xs[j] cs → ∃ z, cs = cells z ∧ ∀ F, F ∈ facts z → F.ok S w ∧ ∀ k, ¬ F.own k) :
    ∀ S w, (rd e A c xs).ok S w → ∃ z : Addr × Z, A = some z.1 ∧ ∀ X, X ∈ cellsAt (z.1.add (j * e.sz)) (cells z.2) :: facts z.2 → X.ok S w ∧ ∀ k, ¬ X.own k := by
  intro S w h
  obtain ⟨p, hp, hS, cs, hK, hc⟩ := h.2.2 j hj
  obtain ⟨z, rfl, hz⟩ := V S w cs hK
  refine ⟨(p, z), hp, fun X hX => ?_⟩
  rcases List.mem_cons.1 hX with rfl | hX
  · refine ⟨⟨by rw [add_block]; exact hS, fun i u hu => ?_⟩, fun k h => h⟩
    rw [Addr.add_add]
    exact hc i u hu
  · exact hz X hX
theorem rd_bounds {e : Kd α} {A : Option Addr} {c : Nat} {xs : List α} {S : Nat → Prop} {w : World} (h : (rd e A c xs).ok S w) : xs.length ≤ c ∧ c ≤ 9223372036854775807 := ⟨h.1, h.2.1⟩
/-- What is read of an element's cells. -/
theorem kf_open {e : Kd α} {x : α} {cs : List Value} {Z : Type} {cells : Z → List Value} {facts : Z → List Fact} (V : ∀ S w cs, e.K S w x cs → ∃ z, cs = cells z ∧ ∀ F, F ∈ facts z → F.ok S w ∧ ∀ k, ¬ F.own k) :
    ∀ S w, (kf e x cs).ok S w → ∃ z : Z, cs = cells z ∧ ∀ X, X ∈ facts z → X.ok S w ∧ ∀ k, ¬ X.own k := fun S w h => V S w cs h

/-! #### settled slices that are cut -/
def cutA (c i : Nat) (A : Option Addr) (sz : Nat) : Option Addr := if c = i then A else A.map (·.add (i * sz))
theorem rd_take {e : Kd α} {A : Option Addr} {c : Nat} {xs : List α} (j : Nat) : ∀ S w, (rd e A c xs).ok S w → ∃ z : Unit, True ∧ ∀ X, X ∈ [rd e A c (xs.take j)] → X.ok S w ∧ ∀ k, ¬ X.own k := by
  intro S w h
  refine ⟨(), trivial, fun X hX => ?_⟩
  obtain rfl : X = rd e A c (xs.take j) := by simpa using hX
  refine ⟨⟨by have := h.1; simp; omega, h.2.1, fun i hi => ?_⟩, fun k h => h⟩
  have hi' : i < xs.length := by simp at hi; omega
  have := h.2.2 i hi'
  rwa [List.getElem_take]
theorem rd_drop {e : Kd α} {A : Option Addr} {c : Nat} {xs : List α} (j : Nat) : ∀ S w, (rd e A c xs).ok S w → ∃ z : Unit, True ∧ ∀ X, X ∈ [rd e (cutA c j A e.sz) (c - j) (xs.drop j)] → X.ok S w ∧ ∀ k, ¬ X.own k := by
  intro S w h
  refine ⟨(), trivial, fun X hX => ?_⟩
  obtain rfl : X = rd e (cutA c j A e.sz) (c - j) (xs.drop j) := by simpa using hX
  have h1 := h.1
  have h2 := h.2.1
  refine ⟨⟨by simp; omega, by omega, fun i hi => ?_⟩, fun k h => h⟩
  have hi' : j + i < xs.length := by simp at hi; omega
  obtain ⟨p, hp, hS, cs, hK, hc⟩ := h.2.2 (j + i) hi'
  refine ⟨p.add (j * e.sz), ?_, by rw [add_block]; exact hS, cs, ?_, fun i' u hu => ?_⟩
  · unfold cutA
    rw [if_neg (by omega), hp]
    rfl
  · rw [List.getElem_drop]
    exact hK
  · rw [Addr.add_add]
    have := hc i' u hu
    rwa [Nat.add_mul, Nat.add_assoc] at this
theorem Qt.cutHighRd {G : Ctx} {Γ : List Fact} {x y : Operand} {t e' : TypeId} {e : Kd α} {A : Option Addr} {c : Nat} {xs : List α} {k : IntKind} {j : Nat} {z : Value} {by_ : Nat} (i : Nat) (hF : Γ[i]? = some (rd e A c xs)) (ht : P.underlying t = some (.slice e')) (hi : TI P e' z e.sz by_) (hx : ev L x = some (.slice A xs.length c)) (hy : ev L y = some (.int k (j : Int))) (h1 : j ≤ xs.length) :
    Qt P G n D ⟨d, .slice t x none (some y) none, ty, ps, af, gd⟩ L Γ (.slice A (xs.take j).length c) := fun a w S hf hh => by
  have hr := hh.facts _ (List.mem_of_getElem? hF)
  have := Qt.cutHigh (P := P) (G := G) (n := n) (D := D) (Γ := Γ) (d := d) (ty := ty) (ps := ps) (af := af) (gd := gd) ht hi hx hy (Nat.le_trans h1 hr.1) a w S hf hh
  rwa [List.length_take, Nat.min_eq_left h1]
theorem Qt.cutLowRd {G : Ctx} {Γ : List Fact} {x y : Operand} {t e' : TypeId} {e : Kd α} {A : Option Addr} {c : Nat} {xs : List α} {k : IntKind} {j : Nat} {z : Value} {by_ : Nat} (i : Nat) (hF : Γ[i]? = some (rd e A c xs)) (ht : P.underlying t = some (.slice e')) (hi : TI P e' z e.sz by_) (hx : ev L x = some (.slice A xs.length c)) (hy : ev L y = some (.int k (j : Int))) (h1 : j ≤ xs.length) :
    Qt P G n D ⟨d, .slice t x (some y) none none, ty, ps, af, gd⟩ L Γ (.slice (cutA c j A e.sz) (xs.drop j).length (c - j)) := fun a w S hf hh => by
  have hr := hh.facts _ (List.mem_of_getElem? hF)
  have := Qt.cutLow (P := P) (G := G) (n := n) (D := D) (Γ := Γ) (d := d) (ty := ty) (ps := ps) (af := af) (gd := gd) ht hi hx hy h1 hr.1 a w S hf hh
  rw [List.length_drop]
  exact this

/-! #### a row is settled -/
theorem freeze_row {e : Kd α} {t : TypeId} {A : Option Addr} {c : Nat} {xs : List α} : ∀ S w, Start [row e t A c xs] S w → ∃ Δ S', Δ = [rd e A c xs] ∧ Hold ⟨w, S, Own [row e t A c xs], True⟩ Δ S' w := by
  intro S w hs
  have hrow := hs.facts _ List.mem_cons_self
  have hb := row_bounds hrow
  obtain ⟨l, ho, hr⟩ := hrow
  refine ⟨_, fun k => S k ∨ (row e t A c xs).own k, rfl, Hold.list hs (Keeps.refl _ _) (fun F hF => ?_) (by simp) (fun F hF k hk => ?_) (fun k hk => ?_) (fun k h => .inl h) (fun k hk => ?_)⟩
  · obtain rfl : F = rd e A c xs := by simpa using hF
    refine ⟨hb.1, hb.2, fun j hj => ?_⟩
    have hpos : 0 < xs.length := by omega
    rcases ho.2 with ⟨_, h0⟩ | ⟨g, cap, cur, h1, _, h3, _⟩
    · omega
    · injection h1 with hA _ _
      refine ⟨_, hA, .inr ⟨_, hA, rfl⟩, _, e.stable _ _ _ _ _ _ (hr.2 j hj) (fun k h => .inl h) (fun _ _ => rfl), fun i u hu => ?_⟩
      rw [List.getElem?_take] at hu
      split at hu
      · rw [List.getElem?_drop] at hu
        exact ho.cells (g := g) (by rw [hA]; rfl) _ _ hu
      · cases hu
  · obtain rfl : F = rd e A c xs := by simpa using hF
    exact hk.elim
  · rcases hk with hk | hk
    · exact hs.sub k hk
    · exact (row e t A c xs).lt S w k (hs.facts _ List.mem_cons_self) hk
  · rcases hk with hk | hk
    · exact .inl hk
    · exact .inr (.inl ⟨_, List.mem_cons_self, hk⟩)
/-- A block of one's own is settled. -/
theorem freeze_blk {b : Nat} {t : TypeId} {cs : List Value} : ∀ S w, Start [blk b t cs] S w → ∃ Δ S', Δ = [cellsAt ⟨b, 0, none⟩ cs] ∧ Hold ⟨w, S, Own [blk b t cs], True⟩ Δ S' w := by
  intro S w hs
  have hb : (blk b t cs).ok S w := hs.facts _ List.mem_cons_self
  refine ⟨_, fun k => S k ∨ k = b, rfl, Hold.list hs (Keeps.refl _ _) (fun F hF => ?_) (by simp) (fun F hF k hk => ?_) (fun k hk => ?_) (fun k h => .inl h) (fun k hk => ?_)⟩
  · obtain rfl : F = cellsAt ⟨b, 0, none⟩ cs := by simpa using hF
    refine ⟨.inr rfl, fun i u hu => ?_⟩
    rw [add_plain, Nat.zero_add]
    exact blk_cell hb hu
  · obtain rfl : F = cellsAt ⟨b, 0, none⟩ cs := by simpa using hF
    exact hk.elim
  · rcases hk with hk | rfl
    · exact hs.sub k hk
    · exact (blk k t cs).lt S w k hb rfl
  · rcases hk with hk | rfl
    · exact .inl hk
    · exact .inr (.inl ⟨_, List.mem_cons_self, rfl⟩)
/-- A block of one's own is a row: xs elements, no room left. -/
theorem blk_row {e : Kd α} {b : Nat} {t : TypeId} {cs : List Value} {U : List Fact} (xs : List α) (hU : ∀ F, F ∈ U → ∀ k, ¬ F.own k) (hr : ∀ S w, (∀ F, F ∈ U → F.ok S w) → Reps e S w xs cs) (hm : xs.length ≤ 9223372036854775807) :
    ∀ S w, Start (blk b t cs :: U) S w → ∃ Δ S', Δ = [row e t (some ⟨b, 0, none⟩) xs.length xs] ∧ Hold ⟨w, S, Own (blk b t cs :: U), True⟩ Δ S' w := by
  intro S w hs
  have hb : w.heap[b]? = some (.cells cs.toArray t (0, 0)) := hs.facts _ List.mem_cons_self
  have hr' := hr S w fun F hF => hs.facts F (List.mem_cons_of_mem _ hF)
  refine ⟨_, S, rfl, Hold.one hs (Keeps.refl _ _) _ ⟨cs, ⟨hr'.1, .inr ⟨b, _, _, rfl, Nat.zero_le _, hb, Nat.le_refl _, by simpa [maxLen] using hm, by simp [hr'.1], ?_⟩⟩, hr'⟩ (fun k hk => .inl (Own.head (F := blk b t cs) ?_))⟩
  · rw [← hr'.1]
    simp
  · obtain ⟨p, hp, rfl⟩ := hk
    injection hp with hp
    subst hp
    rfl
/-- nil is a row. -/
theorem nil_row {e : Kd α} {t : TypeId} : ∀ S w, Start [] S w → ∃ Δ S', Δ = [row e t none 0 ([] : List α)] ∧ Hold ⟨w, S, Own [], True⟩ Δ S' w := fun S w hs =>
  ⟨_, S, rfl, Hold.one hs (Keeps.refl _ _) _ (row_nil e t S w) (fun k ⟨p, hp, _⟩ => by cases hp)⟩

/-! #### append -/
/-- append draws, or does not. -/
theorem append_drawn {P : Program} {t e ty : TypeId} {i : TypeInfo} {z : Value} {w : World} (ht : P.underlying t = some (.slice e)) (hi : P.info? e = some i) (hz : i.zero = some z) {v : Value} {n : Nat} {xs : List Value} (hown : w.ownsRow 0 e i.size v n xs) {a : Addr} {m c : Nat} {news : List Value}
    (hl : news.length = m * i.size) (hnews : ∀ j u, news[j]? = some u → w.cell? (a.add j) = some u) (h1 : ∀ u, u ∈ news → u.oneCell' = true) (hsz : 0 < i.size) (h63 : n + m ≤ maxLen) (hbytes : (n + m) * i.bytes ≤ 140737488355328) {v' : Value} {w' : World}
    (hr : (Builtin.append_ #[t, t] ty #[v, .slice (some a) m c]).run P w = .ok v' w') : w.drawn ≤ w'.drawn := by
  simp only [maxLen] at h63
  rcases hown.2 with ⟨rfl, rfl⟩ | ⟨g, cap, cur, rfl, hbg, hg, hnc, hcm, hcs, htake⟩
  · by_cases hm : m = 0
    · subst hm
      have : (Builtin.append_ #[t, t] ty #[.slice none 0 0, .slice (some a) 0 c]).run P w = .ok (.slice none 0 0) w := by
        simp [Builtin.append_, run_underlying ht, sizeOf, typeInfo, hi, Builtin.lenOf, Builtin.firstCells, loadCells, loadCellsFrom]
      rw [this] at hr
      injection hr with _ h
      rw [← h]
      exact Nat.le_refl _
    · have h2 := run_append_nil (P := P) w t ty e i z ht hi hz a m c news hl hnews (by omega) (by omega) (by simp only [Nat.zero_add] at hbytes; omega)
      rw [h2] at hr
      injection hr with _ h
      rw [← h]
      exact Nat.le_succ _
  · by_cases hroom : n + m ≤ cap
    · have hfit : n * i.size + news.length ≤ cur.size := by rw [hl, hcs, ← Nat.add_mul]; exact Nat.mul_le_mul_right _ hroom
      have h2 := run_append_room (P := P) w t ty e i ht hi g n cap cur hg a m c news hl hnews h1 hroom hfit
      rw [h2] at hr
      injection hr with _ h
      rw [← h]
      exact Nat.le_refl _
    · have holds : ∀ j u, xs[j]? = some u → w.cell? ((⟨g, 0, none⟩ : Addr).add j) = some u := hown.cells (g := g) rfl
      have h2 := run_append_grow (P := P) w t ty e i z ht hi hz ⟨g, 0, none⟩ n cap xs hown.1 holds a m c news hl hnews (by omega) (by omega) (growslice_fits (by omega) hbytes)
      rw [h2] at hr
      injection hr with _ h
      rw [← h]
      exact Nat.le_succ _
theorem run_append {P : Program} {t e' : TypeId} {z : Value} {by_ : Nat} {e : Kd α} (ht : P.underlying t = some (.slice e')) (hi : TI P e' z e.sz by_) (hzs : z.cells.size = e.sz) (hsz : 0 < e.sz) {A : Option Addr} {c : Nat} {xs ys : List α} {w : World} {S : Nat → Prop} (hrow : (row e e' A c xs).ok S w)
    {B : Option Addr} {cb : Nat} {news : List Value} (hB : B = none → ys = []) (hcell : ∀ p, B = some p → ∀ j u, news[j]? = some u → w.cell? (p.add j) = some u) (hK : Reps e S w ys news) (hbytes : (xs.length + ys.length) * by_ ≤ 140737488355328) (hby : 0 < by_) (rt : TypeId) :
    ∃ A' c' w', (Builtin.append_ #[t, t] rt #[.slice A xs.length c, .slice B ys.length cb]).run P w = .ok (.slice A' (xs ++ ys).length c') w' ∧ (∃ l, w'.ownsRow 0 e' e.sz (.slice A' (xs ++ ys).length c') (xs ++ ys).length l ∧ Reps e S w (xs ++ ys) l) ∧
      w.grownBy w' ((Value.slice A xs.length c).ownBlock) ∧ ((Value.slice A' (xs ++ ys).length c').ownBlock = (Value.slice A xs.length c).ownBlock ∨ (Value.slice A' (xs ++ ys).length c').ownBlock = some w.heap.size) ∧ w.drawn ≤ w'.drawn := by
  obtain ⟨i, hi1, hi2, hi3, hi4⟩ := hi
  obtain ⟨l, ho, hr⟩ := hrow
  cases B with
  | none =>
    obtain rfl := hB rfl
    have hrun : (Builtin.append_ #[t, t] rt #[.slice A xs.length c, .slice none 0 cb]).run P w = .ok (.slice A xs.length c) w := by
      rcases ho.2 with ⟨h1, h0⟩ | ⟨g, cap, cur, h1, _, _, hnc, _⟩
      · injection h1 with h1 h2 h3
        subst h1 h3
        simp [Builtin.append_, run_underlying ht, sizeOf, typeInfo, hi1, Builtin.lenOf, Builtin.firstCells, h0]
      · injection h1 with h1 h2 h3
        subst h1 h3
        simp [Builtin.append_, run_underlying ht, sizeOf, typeInfo, hi1, Builtin.lenOf, Builtin.firstCells, hnc, storeCells]
    refine ⟨A, c, w, by simpa using hrun, ⟨l, by simpa using ho, by simpa using hr⟩, World.grownBy.refl w _, .inl (by cases A <;> rfl), Nat.le_refl _⟩
  | some p =>
    have hlen : xs.length + ys.length ≤ 140737488355328 := Nat.le_trans (Nat.le_mul_of_pos_right _ hby) hbytes
    obtain ⟨v', w', hrun, hown, hg, _, hat⟩ := run_append_own_at (P := P) w 0 t rt e' i z e.sz by_ ht hi1 hi2 hi3 hi4 hzs hsz (.slice A xs.length c) xs.length l ho p ys.length cb news hK.1 (hcell p rfl) hK.ones (by simp only [maxLen]; omega) hbytes (Nat.zero_le _)
    have hdr := append_drawn (P := P) ht hi1 hi2 (by rw [hi3]; exact ho) (by rw [hi3]; exact hK.1) (hcell p rfl) hK.ones (by omega) (by simp only [maxLen]; omega) (by rw [hi4]; exact hbytes) hrun
    have hshape : ∃ A' c', v' = .slice A' (xs ++ ys).length c' := by
      rw [List.length_append]
      rcases hown.2 with ⟨h1, h0⟩ | ⟨g, cap, cur, h1, _⟩
      · exact ⟨none, 0, by rw [h1, h0]⟩
      · exact ⟨_, cap, h1⟩
    obtain ⟨A', c', rfl⟩ := hshape
    exact ⟨A', c', w', hrun, ⟨l ++ news, by rw [List.length_append] at hown ⊢; exact hown, hr.append hK⟩, hg, hat, hdr⟩

theorem own_block {A : Option Addr} {m c k : Nat} (h : (Value.slice A m c).ownBlock = some k) : ∃ p, A = some p ∧ p.block = k := by
  cases A with
  | none => simp [Value.ownBlock] at h
  | some p => exact ⟨p, rfl, by simpa [Value.ownBlock] using h⟩
theorem block_own {A : Option Addr} {m c k : Nat} (h : ∃ p, A = some p ∧ p.block = k) : (Value.slice A m c).ownBlock = some k := by
  obtain ⟨p, rfl, rfl⟩ := h
  rfl
/-- Whatever lies before an append stays settled. -/
theorem grown_settled {Γp : List Fact} {S : Nat → Prop} {w w' : World} (hs : Start Γp S w) {row : Option Nat} (hg : w.grownBy w' row) (hr : ∀ k, row = some k → Own Γp k) : ∀ k, S k → w'.heap[k]? = w.heap[k]? := fun k hk =>
  hg.block k (hs.sub k hk) fun e => hs.notS (.inl (hr k e.symm)) hk

/-- append of what lies in a block of one's own ('append(xs, y)': its variadic's box), or elsewhere. -/
theorem Ld.append {t e' : TypeId} {z : Value} {by_ : Nat} {e : Kd α} {x y : Operand} {A B : Option Addr} {c cb : Nat} {xs ys : List α} {U : List Fact} (ht : P.underlying t = some (.slice e')) (hi : TI P e' z e.sz by_) (hzs : z.cells.size = e.sz) (hsz : 0 < e.sz) (hby : 0 < by_)
    (hx : ev L x = some (.slice A xs.length c)) (hy : ev L y = some (.slice B ys.length cb)) (hbytes : (xs.length + ys.length) * by_ ≤ 140737488355328)
    (hU : ∀ S w, (∀ F, F ∈ U → F.ok S w) → ∃ news, (B = none → ys = []) ∧ (∀ p, B = some p → ∀ j u, news[j]? = some u → w.cell? (p.add j) = some u) ∧ Reps e S w ys news) :
    Ld P n D ⟨d, .call ⟨.builtin .append, #[x, y], #[t, t]⟩, ty, ps, af, gd⟩ L (row e e' A c xs :: U) fun v Δ => ∃ A' c', v = .slice A' (xs ++ ys).length c' ∧ Δ = [row e e' A' c' (xs ++ ys)] := by
  intro a hf w S hs
  obtain ⟨news, hB, hcell, hK⟩ := hU S w fun F hF => hs.facts F (List.mem_cons_of_mem _ hF)
  obtain ⟨A', c', w', hrun, ⟨l, ho, hr⟩, hg, hat, hdr⟩ := run_append ht hi hzs hsz (hs.facts _ List.mem_cons_self) (cb := cb) hB hcell hK hbytes hby ty
  have hown : ∀ k, (Value.slice A xs.length c).ownBlock = some k → Own (row e e' A c xs :: U) k := fun k hk => Own.head (F := row e e' A c xs) (own_block hk)
  refine ⟨_, w', _, S, .inl ?_, ⟨A', c', rfl, rfl⟩, Hold.one hs (Keeps.grown hg hown hdr) _ ⟨l, ho, hr.stable (fun _ h => h) (grown_settled hs hg hown)⟩ (fun k hk => ?_)⟩
  · simp [execOp, resolve, invoke, builtin, hf.eval hx, hf.eval hy, hrun]
  · have hk' := block_own (m := (xs ++ ys).length) (c := c') hk
    rcases hat with hat | hat
    · exact .inl (hown k (by rw [← hat]; exact hk'))
    · rw [hat] at hk'
      injection hk' with hk'
      exact .inr (Nat.le_of_eq hk')
/-- 'append(xs, y)' -/
theorem Ld.append1 {t e' : TypeId} {z : Value} {by_ : Nat} {e : Kd α} {x y : Operand} {A : Option Addr} {b c cb : Nat} {tb : TypeId} {cs : List Value} {xs : List α} {U : List Fact} (y0 : α) (ht : P.underlying t = some (.slice e')) (hi : TI P e' z e.sz by_) (hzs : z.cells.size = e.sz) (hsz : 0 < e.sz) (hby : 0 < by_)
    (hx : ev L x = some (.slice A xs.length c)) (hy : ev L y = some (.slice (some ⟨b, 0, none⟩) 1 cb)) (hbytes : (xs.length + 1) * by_ ≤ 140737488355328)
    (hK : ∀ S w, (∀ F, F ∈ U → F.ok S w) → e.K S w y0 cs) :
    Ld P n D ⟨d, .call ⟨.builtin .append, #[x, y], #[t, t]⟩, ty, ps, af, gd⟩ L (row e e' A c xs :: blk b tb cs :: U) fun v Δ => ∃ A' c', v = .slice A' (xs ++ [y0]).length c' ∧ Δ = [row e e' A' c' (xs ++ [y0])] :=
  Ld.append (ys := [y0]) ht hi hzs hsz hby hx hy hbytes fun S w hF => by
    refine ⟨cs, (fun h => nomatch h), fun p hp j u hu => ?_, Reps.one (hK S w fun F h => hF F (List.mem_cons_of_mem _ h))⟩
    injection hp with hp
    subst hp
    rw [add_plain, Nat.zero_add]
    exact blk_cell (hF (blk b tb cs) List.mem_cons_self) hu
/-- 'append(xs, ys...)', ys settled. -/
theorem Ld.appendRd {t e' : TypeId} {z : Value} {by_ : Nat} {e : Kd α} {x y : Operand} {A B : Option Addr} {c cb : Nat} {xs ys : List α} (ht : P.underlying t = some (.slice e')) (hi : TI P e' z e.sz by_) (hzs : z.cells.size = e.sz) (hsz : 0 < e.sz) (hby : 0 < by_)
    (hx : ev L x = some (.slice A xs.length c)) (hy : ev L y = some (.slice B ys.length cb)) (hbytes : (xs.length + ys.length) * by_ ≤ 140737488355328) :
    Ld P n D ⟨d, .call ⟨.builtin .append, #[x, y], #[t, t]⟩, ty, ps, af, gd⟩ L [row e e' A c xs, rd e B cb ys] fun v Δ => ∃ A' c', v = .slice A' (xs ++ ys).length c' ∧ Δ = [row e e' A' c' (xs ++ ys)] :=
  Ld.append ht hi hzs hsz hby hx hy hbytes fun S w hF => by
    have h : (rd e B cb ys).ok S w := hF _ List.mem_cons_self
    obtain ⟨_, _, h⟩ := h
    have hx : ∃ news : List Value, news.length = ys.length * e.sz ∧ ∀ (j : Nat) (hj : j < ys.length), e.K S w ys[j] ((news.drop (j * e.sz)).take e.sz) ∧ ∀ p, B = some p → ∀ i u, ((news.drop (j * e.sz)).take e.sz)[i]? = some u → w.cell? (p.add (j * e.sz + i)) = some u := by
      clear hF hbytes hy
      have key : ∀ m, m ≤ ys.length → ∃ news : List Value, news.length = m * e.sz ∧ ∀ (j : Nat) (hj : j < ys.length), j < m → e.K S w ys[j] ((news.drop (j * e.sz)).take e.sz) ∧ ∀ p, B = some p → ∀ i u, ((news.drop (j * e.sz)).take e.sz)[i]? = some u → w.cell? (p.add (j * e.sz + i)) = some u := by
        intro m
        induction m with
        | zero => exact fun _ => ⟨[], by simp, fun j _ h => absurd h (Nat.not_lt_zero _)⟩
        | succ m ih =>
          intro hm
          obtain ⟨news, hl, hn⟩ := ih (by omega)
          obtain ⟨p, hp, hS, cs, hK, hc⟩ := h m (by omega)
          have hcs := e.len _ _ _ _ hK
          refine ⟨news ++ cs, by rw [List.length_append, hl, hcs, Nat.succ_mul], fun j hj hjm => ?_⟩
          rcases Nat.lt_or_ge j m with hlt | hge
          · have h1 : j * e.sz + e.sz ≤ news.length := by rw [hl, ← Nat.succ_mul]; exact Nat.mul_le_mul_right _ hlt
            rw [List.drop_append_of_le_length (by omega), List.take_append_of_le_length (by rw [List.length_drop]; omega)]
            exact hn j hj hlt
          · have : j = m := by omega
            subst this
            rw [← hl, List.drop_left, ← hcs, List.take_length]
            refine ⟨hK, fun q hq i u hu => ?_⟩
            rw [hp] at hq
            injection hq with hq
            subst hq
            rw [hl]
            exact hc i u hu
      obtain ⟨news, h1, h2⟩ := key ys.length (Nat.le_refl _)
      exact ⟨news, h1, fun j hj => h2 j hj hj⟩
    obtain ⟨news, hl, hn⟩ := hx
    refine ⟨news, fun hB => ?_, fun p hp j u hu => ?_, hl, fun j hj => (hn j hj).1⟩
    · rcases Nat.eq_zero_or_pos ys.length with h0 | h0
      · exact List.eq_nil_of_length_eq_zero h0
      · obtain ⟨p, hp, _⟩ := h 0 h0
        rw [hB] at hp
        cases hp
    · have hj : j < news.length := (List.getElem?_eq_some_iff.1 hu).1
      have hjd : j / e.sz < ys.length := (Nat.div_lt_iff_lt_mul hsz).2 (by rw [← hl]; exact hj)
      have hdm : j / e.sz * e.sz + j % e.sz = j := by rw [Nat.mul_comm]; exact Nat.div_add_mod j e.sz
      have := (hn (j / e.sz) hjd).2 p hp (j % e.sz) u (by rw [List.getElem?_take, if_pos (Nat.mod_lt _ hsz), List.getElem?_drop, hdm]; exact hu)
      rwa [hdm] at this
end
end
end Go.Proofs.YtolggjmgfijjfaaGreatDoor.Sep

/- More rules: structs and slices that are built, made slices, maps, calls, results that lie in memory. Nothing here speaks of a program. -/
namespace Go.Proofs.YtolggjmgfijjfaaGreatDoor.Sep
open Go Go.MapKept

/-! ### Structs that are built -/
def fillL (pl : Nat → Option (Nat × Nat)) : List Value → List (Nat × Value) → Option (List Value)
  | cells, [] => some cells
  | cells, (i, v) :: r => match pl i with
    | none => none
    | some (off, size) => match Nat.beq v.cells.toList.length size with
      | false => none
      | true => match pokeL cells off v.cells.toList with
        | none => none
        | some cells' => fillL pl cells' r
theorem take_set_succ (l : List Value) (i : Nat) (v : Value) (h : i < l.length) : (l.set i v).take (i + 1) = l.take i ++ [v] := by
  rw [List.take_add_one, List.getElem?_set_self h]
  rw [List.take_set, List.set_eq_of_length_le (by simp; omega)]
  rfl
theorem zipIdx_poke : ∀ (vs : List Value) (k off : Nat) (cs : Array Value), off + k + vs.length ≤ cs.size →
    ((vs.zipIdx k).foldl (fun (cs : Array Value) (x : Value × Nat) => cs.setIfInBounds (off + x.2) x.1) cs) = (cs.toList.take (off + k) ++ vs ++ cs.toList.drop (off + k + vs.length)).toArray
  | [], k, off, cs, h => by simp
  | v :: vs, k, off, cs, h => by
    have ih := zipIdx_poke vs (k + 1) off (cs.setIfInBounds (off + k) v) (by simp at h ⊢; omega)
    rw [List.zipIdx_cons, List.foldl_cons, ih]
    have hlt : off + k < cs.toList.length := by simp at h ⊢; omega
    apply congrArg List.toArray
    have e1 : off + (k + 1) = off + k + 1 := by omega
    rw [e1]
    simp only [Array.toList_setIfInBounds, List.length_cons]
    have e2 : off + k + 1 + vs.length = off + k + (vs.length + 1) := by omega
    rw [e2, List.drop_set_of_lt (by omega), take_set_succ _ _ _ hlt]
    simp
theorem fillL_eq (pl : Nat → Option (Nat × Nat)) : ∀ (parts : List (Nat × Value)) (cells r : List Value), fillL pl cells parts = some r → Instr.fill pl cells.toArray parts = some r.toArray
  | [], cells, r, h => by simp [fillL] at h; simp [Instr.fill, h]
  | (i, v) :: ps, cells, r, h => by
    simp only [fillL] at h
    split at h
    · cases h
    · rename_i off size hp
      split at h
      · cases h
      · rename_i hs
        have hs' : v.cells.size = size := by have := Nat.eq_of_beq_eq_true hs; simpa using this
        split at h
        · cases h
        · rename_i cells' hk
          obtain ⟨h1, h2⟩ := pokeL_eq _ _ _ _ hk
          have ih := fillL_eq pl ps cells' r h
          have hfit : off + v.cells.size ≤ cells.length := by simpa using h2
          have hz : (v.cells.zipIdx.foldl (fun (cs : Array Value) (x : Value × Nat) => cs.setIfInBounds (off + x.2) x.1) cells.toArray) = cells'.toArray := by
            have := zipIdx_poke v.cells.toList 0 off cells.toArray (by simpa using h2)
            rw [h1]
            rw [← Array.foldl_toList]
            simp only [Array.toList_zipIdx, Nat.add_zero] at this ⊢
            exact this
          simp only [Instr.fill, hp, hs', ne_eq, not_true_eq_false, decide_false, Bool.false_or, List.size_toArray]
          rw [if_neg (by simpa [hs'] using Nat.not_lt.2 (hs' ▸ hfit))]
          have : (v.cells.zipIdx.foldl (fun cs (x : Value × Nat) => match x with | (c, j) => cs.setIfInBounds (off + j) c) cells.toArray) = cells'.toArray := hz
          rw [this]
          exact ih
/-- Where a struct type's fields lie, and how wide they are. -/
def TP (P : Program) (t : TypeId) (pl : List (Nat × Nat)) : Prop := ∃ fs, P.underlying t = some (.struct fs) ∧ ∀ w, (fs.mapM fun f => do pure (f.offset, ← sizeOf f.type) : Sem (Array (Nat × Nat))).run P w = .ok pl.toArray w
def evp (L : List (Nat × Value)) : List (Nat × Operand) → Option (List (Nat × Value))
  | [] => some []
  | (i, x) :: r => match ev L x, evp L r with
    | some v, some vs => some ((i, v) :: vs)
    | _, _ => none
theorem Fr.evp {n : Nat} {D : List Deferred} {a : Act} {L : List (Nat × Value)} (h : Fr n D a L) : ∀ {xs : List (Nat × Operand)} {vs : List (Nat × Value)}, Sep.evp L xs = some vs → xs.map (fun p => (p.1, a.eval p.2)) = vs
  | [], vs, hv => by simp [Sep.evp] at hv; simp [hv]
  | (i, x) :: r, vs, hv => by
    simp only [Sep.evp] at hv
    split at hv
    · rename_i v vs' h1 h2
      injection hv with hv
      subst hv
      simp [h.eval h1, h.evp h2]
    · cases hv
def nthP (pl : List (Nat × Nat)) (i : Nat) : Option (Nat × Nat) := pl[i]?

section
variable {P : Program} {G : Ctx} {n : Nat} {D : List Deferred} {L : List (Nat × Value)} {Γ : List Fact}
variable {d : Option Nat} {ty : TypeId} {ps : String} {af : Array Edge} {gd : Option (Nat × Bool)}
theorem Qt.build {t : TypeId} {xs : List (Nat × Operand)} {vs : List (Nat × Value)} {z : Value} {zs cs : List Value} {sz by_ : Nat} {pl : List (Nat × Nat)} (hp : TP P t pl) (hi : TI P t z sz by_) (hz : z.cells.toList = zs) (hx : evp L xs = some vs) (hc : fillL (nthP pl) zs vs = some cs) :
    Qt P G n D ⟨d, .build t xs.toArray, ty, ps, af, gd⟩ L Γ (.agg cs.toArray) := fun a w S hf hh => by
  obtain ⟨fs, hu, hpl⟩ := hp
  have hfill := fillL_eq _ _ _ _ hc
  have hzs : zs.toArray = z.cells := by rw [← hz]
  rw [hzs] at hfill
  have hev := hf.evp hx
  have hpl' : (fun i => pl.toArray[i]?) = nthP pl := by funext i; simp [nthP]
  have hrun : (Instr.build t (xs.toArray.map fun p => (p.1, a.eval p.2))).run P w = .ok (.agg cs.toArray) w := by
    simp only [Instr.build, Sem.run_bind, hi.zero, Result.andThen_ok, run_underlying hu, hpl w, hpl', List.map_toArray, hev, hfill, Sem.run_pure]
  simp only [execOp, Sem.run_bind]
  have e : (Array.map (fun x => match x with | (i, x) => (i, a.eval x)) xs.toArray) = (xs.toArray.map fun p => (p.1, a.eval p.2)) := rfl
  rw [e, hrun]
  rfl
theorem TF.of {s : TypeId} {f o : Nat} {fs : Array Field} {fd : Field} {z : Value} {sz by_ : Nat} (hu : P.underlying s = some (.struct fs)) (hf : fs[f]? = some fd) (ho : fd.offset = o) (hi : TI P fd.type z sz by_) (h0 : sz ≠ 0) : TF P s f o := by
  obtain ⟨i, h1, h2, h3, h4⟩ := hi
  exact ⟨fs, fd, i, hu, hf, ho, h1, by rw [h3]; exact h0⟩
theorem Ld.buildSlice {t e : TypeId} {m : Nat} {xs : List (Nat × Operand)} {vs : List (Nat × Value)} {z : Value} {cs zs : List Value} {sz by_ : Nat} (ht : P.underlying t = some (.slice e)) (hi : TI P e z sz by_) (hm : Nat.ble (m * sz) 16777216 = true) (hpos : Nat.beq (m * sz) 0 = false)
    (hzs : ((Array.range (m * sz)).map (z.cells[· % z.cells.size]!)).toList = zs) (hx : evp L xs = some vs) (hc : fillL (fun i => some (i * sz, sz)) zs vs = some cs) :
    Ld P n D ⟨d, .buildSlice t m xs.toArray, ty, ps, af, gd⟩ L [] fun v Δ => ∃ b, v = .slice (some ⟨b, 0, none⟩) m m ∧ Δ = [blk b e cs] := by
  intro a hf w S hs
  obtain ⟨i, h1, h2, h3, h4⟩ := hi
  subst h3
  have hfill := fillL_eq _ _ _ _ hc
  rw [← hzs, Array.toArray_toList] at hfill
  have hrun := run_buildSlice (P := P) w t e m (xs.toArray.map fun p => (p.1, a.eval p.2)) cs.toArray i z ht h1 h2 (by simpa [Nat.ble_eq] using hm) (Nat.ne_of_beq_eq_false hpos) (by
    have : (xs.toArray.map fun p => (p.1, a.eval p.2)).toList = vs := by simpa using hf.evp hx
    rw [this]
    exact hfill)
  refine ⟨.slice (some ⟨w.heap.size, 0, none⟩) m m, w.alloc (.cells cs.toArray e), _, S, .inl ?_, ⟨w.heap.size, rfl, rfl⟩, ?_⟩
  · simp only [execOp, Sem.run_bind]
    have e' : (Array.map (fun x => match x with | (i, x) => (i, a.eval x)) xs.toArray) = (xs.toArray.map fun p => (p.1, a.eval p.2)) := rfl
    rw [e', hrun]
    rfl
  · refine Hold.one hs (Keeps.alloc _ _ _) _ ?_ (fun k hk => .inr (Nat.le_of_eq hk.symm))
    exact heap_alloc_new w _
/-- '[]T{}' -/
theorem Ld.buildEmpty {t e : TypeId} {z : Value} {sz by_ : Nat} (ht : P.underlying t = some (.slice e)) (hi : TI P e z sz by_) :
    Ld P n D ⟨d, .buildSlice t 0 #[], ty, ps, af, gd⟩ L [] fun v Δ => ∃ b, v = .slice (some ⟨b, 0, none⟩) 0 0 ∧ Δ = [blk b e []] := by
  intro a hf w S hs
  obtain ⟨i, h1, h2, h3, h4⟩ := hi
  refine ⟨.slice (some ⟨w.heap.size, 0, none⟩) 0 0, w.alloc (.cells #[] e), _, S, .inl ?_, ⟨w.heap.size, rfl, rfl⟩, ?_⟩
  · simp [execOp, Instr.buildSlice, run_underlying ht, sizeOf, typeInfo, h1, Instr.fill, newRow, Array.range_zero']
  · refine Hold.one hs (Keeps.alloc _ _ _) _ ?_ (fun k hk => .inr (Nat.le_of_eq hk.symm))
    exact heap_alloc_new w _
/-- 'make([]T, m)' -/
theorem Ld.makeSlice {α : Type} {e : Kd α} {t e' : TypeId} {x : Operand} {m : Nat} {z : Value} {by_ : Nat} (z0 : α) (ht : P.underlying t = some (.slice e')) (hi : TI P e' z e.sz by_) (hz : z.cells.size = e.sz) (hpos : 0 < e.sz) (hby : 0 < by_) (hx : ev L x = some (.int .i64 (m : Int))) (hm : m * by_ ≤ 281474976710656)
    (hK : ∀ S w, e.K S w z0 z.cells.toList) :
    Ld P n D ⟨d, .makeSlice t x x, ty, ps, af, gd⟩ L [] fun v Δ => ∃ A, v = .slice A (List.replicate m z0).length m ∧ Δ = [row e e' A m (List.replicate m z0)] := by
  intro a hf w S hs
  obtain ⟨i, h1, h2, h3, h4⟩ := hi
  have hmm : m ≤ 281474976710656 := Nat.le_trans (Nat.le_mul_of_pos_right _ hby) hm
  have hb' : (i.bytes : Int) * (m : Int) ≤ 281474976710656 := by
    rw [h4, ← Int.natCast_mul, Nat.mul_comm]
    exact Int.ofNat_le.2 hm
  have hr := run_make (P := P) w t e' i z ht h1 h2 .i64 .i64 (m : Int) (m : Int) (by omega) (Int.le_refl _) hb' (by omega)
  simp only [Int.toNat_natCast, h3] at hr
  have hlen : (madeCells z.cells (m * e.sz)).toList.length = m * e.sz := by simp [size_madeCells]
  refine ⟨.slice (some ⟨w.heap.size, 0, none⟩) m m, w.alloc (.cells (madeCells z.cells (m * e.sz)) e'), _, S, .inl ?_, ⟨some ⟨w.heap.size, 0, none⟩, by simp, rfl⟩, ?_⟩
  · simp only [execOp, hf.eval hx, Sem.run_bind, hr, Result.andThen_ok, Sem.run_pure]
  · refine Hold.one hs (Keeps.alloc _ _ _) _ ⟨(madeCells z.cells (m * e.sz)).toList, ?_, by simp [size_madeCells], fun j hj => ?_⟩ (fun k hk => .inr ?_)
    · refine ⟨by simp [size_madeCells], .inr ⟨w.heap.size, m, _, by simp, Nat.zero_le _, heap_alloc_new w _, by simp, by simp only [maxLen]; omega, by simp [size_madeCells], ?_⟩⟩
      rw [List.take_of_length_le (by simp [size_madeCells])]
    · have hj' : j < m := by simpa using hj
      have hcell : ((madeCells z.cells (m * e.sz)).toList.drop (j * e.sz)).take e.sz = z.cells.toList := by
        have h1 : j * e.sz + e.sz ≤ m * e.sz := by rw [← Nat.succ_mul]; exact Nat.mul_le_mul_right _ hj'
        apply List.ext_getElem
        · simp [size_madeCells, hz]; omega
        · intro k hk1 hk2
          have hk : k < e.sz := by simpa [hz] using hk2
          have hmod : (j * e.sz + k) % e.sz = k := by rw [Nat.add_comm, Nat.add_mul_mod_self_right, Nat.mod_eq_of_lt hk]
          simp [madeCells, hz, hmod, hk]
      rw [hcell]
      simpa using hK S _
    · obtain ⟨p, hp, rfl⟩ := hk
      injection hp with hp
      subst hp
      exact Nat.le_refl _

/-! ### Calls -/
def Callable (P : Program) (f : FuncId) : Prop := ∃ fn, P.funcs[f]? = some fn ∧ (fn.name == "runtime.NumGoroutine") = false ∧ fn.body.isNone = false
theorem run_callFunc {f : FuncId} (hc : Callable P f) (args : Array Value) (w : World) : (callFunc f args).run P w = .ok (.enter f args) w := by
  obtain ⟨fn, h1, h2, h3⟩ := hc
  have hp : (program : Sem Program).run P w = .ok P w := rfl
  have hn : ¬ fn.name = "runtime.NumGoroutine" := by simpa using h2
  have hb : ¬ fn.body = none := fun e => by simp [e] at h3
  simp [callFunc, hp, h1, hn, hb]
theorem Cl.func {f : FuncId} {xs : List Operand} {at_ : Array TypeId} {vs : List Value} (hc : Callable P f) (hx : evs L xs = some vs) : Cl P n D ⟨d, .call ⟨.value (.func f), xs.toArray, at_⟩, ty, ps, af, gd⟩ L f vs.toArray := fun a w hf => by
  simp [execOp, resolve, Act.eval, Deferred.ofValue, invoke, hf.evals hx, run_callFunc hc]
theorem Cl.val {f : FuncId} {x : Operand} {xs : List Operand} {at_ : Array TypeId} {vs us : List Value} (hc : Callable P f) (hv : ev L x = some (.func (.func f) #[] us.toArray)) (hx : evs L xs = some vs) : Cl P n D ⟨d, .call ⟨.value x, xs.toArray, at_⟩, ty, ps, af, gd⟩ L f (vs ++ us).toArray := fun a w hf => by
  simp [execOp, resolve, hf.eval hv, Deferred.ofValue, invoke, hf.evals hx, run_callFunc hc]

/-! ### Maps -/
structure KeyEnc (κ : Type) [DecidableEq κ] where
  d : TypeDesc
  enc : κ → Value
  is : ∀ k, IsKey d (enc k)
  same : ∀ a b, Instr.sameNow d (enc a) (enc b) = some (decide (a = b))
def strKey : KeyEnc ByteArray := ⟨.string, .string, fun _ => trivial, fun a b => by
  have : (a == b) = decide (a = b) := by
    rw [Bool.eq_iff_iff]
    simp [bytes_beq]
  simp [Instr.sameNow, this]⟩
def intKey : KeyEnc Int := ⟨.int .i64, .int .i64, fun _ => rfl, fun a b => by
  have : (a == b) = decide (a = b) := by by_cases h : a = b <;> simp [h]
  simp [Instr.sameNow, this]⟩
section
variable {κ ν : Type} [DecidableEq κ]
def mlook (m : List (κ × ν)) (k : κ) : Option ν := match m with
  | [] => none
  | (k', v) :: r => if k = k' then some v else mlook r k
def mset (m : List (κ × ν)) (k : κ) (v : ν) : List (κ × ν) := match m with
  | [] => [(k, v)]
  | (k', v') :: r => if k = k' then (k, v) :: r else (k', v') :: mset r k v
/-- A map of one's own. -/
def mp (E : KeyEnc κ) (V : ν → Value) (b : Nat) (m : List (κ × ν)) : Fact where
  own k := k = b
  ok _ w := ∃ es clk, w.heap[b]? = some (.map es clk) ∧ es.toList.map (fun e => (e.key, e.val)) = m.map fun p => (E.enc p.1, V p.2)
  lt S w k h hk := by
    obtain ⟨es, clk, h, _⟩ := h
    subst hk
    exact (Array.getElem?_eq_some_iff.1 h).1
  stable S S' w w' h _ hb := by
    obtain ⟨es, clk, h, h2⟩ := h
    exact ⟨es, clk, by rw [hb b (.inl rfl)]; exact h, h2⟩
theorem findNow_at (E : KeyEnc κ) (V : ν → Value) (k : κ) : ∀ (es : List MapEntry) (m : List (κ × ν)) (i : Nat), es.map (fun e => (e.key, e.val)) = m.map (fun p => (E.enc p.1, V p.2)) →
    (mlook m k = none ∧ Instr.findNow E.d (E.enc k) es i = some none ∧ mset m k = fun v => m ++ [(k, v)]) ∨
    ∃ j v e, mlook m k = some v ∧ Instr.findNow E.d (E.enc k) es i = some (some (i + j, V v)) ∧ es[j]? = some e ∧ e.key = E.enc k ∧ j < m.length ∧ (∀ u, mset m k u = m.set j (k, u)) ∧ m[j]? = some (k, v)
  | [], [], i, _ => .inl ⟨rfl, rfl, rfl⟩
  | [], _ :: _, _, h => by simp at h
  | _ :: _, [], _, h => by simp at h
  | e :: es, (k', v') :: m, i, h => by
    simp only [List.map_cons, List.cons.injEq, Prod.mk.injEq] at h
    obtain ⟨⟨h1, h2⟩, h3⟩ := h
    by_cases hk : k = k'
    · subst hk
      refine .inr ⟨0, v', e, by simp [mlook], ?_, rfl, h1, by simp, fun u => by simp [mset], rfl⟩
      simp [Instr.findNow, h1, E.same, h2]
    · rcases findNow_at E V k es m (i + 1) h3 with ⟨h4, h5, h6⟩ | ⟨j, v, e', h4, h5, h6, h7, h8, h9, h10⟩
      · refine .inl ⟨by simp [mlook, hk, h4], ?_, ?_⟩
        · simp [Instr.findNow, h1, E.same, hk, h5]
        · funext v
          simp [mset, hk, congrFun h6 v]
      · refine .inr ⟨j + 1, v, e', by simp [mlook, hk, h4], ?_, by simpa using h6, h7, by simpa using h8, fun u => by simp [mset, hk, h9 u], by simpa using h10⟩
        have : i + 1 + j = i + (j + 1) := by omega
        simp [Instr.findNow, h1, E.same, hk, h5, this]
theorem run_getObj {w : World} {b : Nat} {es : Array MapEntry} {clk : Nat} (hb : w.heap[b]? = some (.map es clk)) : (getObj b).run P w = .ok (.map es clk) w := by simp [getObj, Sem.run, hb]
theorem run_setObj {w : World} {b : Nat} {es : Array MapEntry} {clk : Nat} (o : Obj) (hb : w.heap[b]? = some (.map es clk)) : (setObj b o).run P w = .ok () { w with heap := w.heap.setIfInBounds b o } := by simp [setObj, Sem.run, hb]

theorem Qt.lookup {t kt et : TypeId} {x y : Operand} {b : Nat} {E : KeyEnc κ} {V : ν → Value} {m : List (κ × ν)} {k : κ} {z : ν} {sz by_ : Nat} (i : Nat) (hF : Γ[i]? = some (mp E V b m)) (ht : P.underlying t = some (.map kt et)) (hk : P.underlying kt = some E.d) (hz : TI P et (V z) sz by_) (hx : ev L x = some (.map (some b))) (hy : ev L y = some (E.enc k)) :
    Qt P G n D ⟨d, .lookup t x y false, ty, ps, af, gd⟩ L Γ (V ((mlook m k).getD z)) := fun a w S hf hh => by
  obtain ⟨es, clk, hb, hm⟩ := hh.facts _ (List.mem_of_getElem? hF)
  have hck := run_checkKey (P := P) (w := w) hk (E.is k) es.isEmpty 9999
  have hrun : (Instr.lookup t (.map (some b)) (E.enc k) false).run P w = .ok (V ((mlook m k).getD z)) w := by
    rcases findNow_at E V k es.toList m 0 hm with ⟨h1, h2, _⟩ | ⟨j, v, e, h1, h2, _⟩
    · simp [Instr.lookup, run_underlying ht, run_getObj hb, hck, run_findKey hk h2, h1, hz.zero]
    · simp [Instr.lookup, run_underlying ht, run_getObj hb, hck, run_findKey hk h2, h1]
  simp only [execOp, hf.eval hx, hf.eval hy, Sem.run_bind, hrun, Result.andThen_ok, Sem.run_pure]
theorem Qt.lookupOk {t kt et : TypeId} {x y : Operand} {b : Nat} {E : KeyEnc κ} {V : ν → Value} {m : List (κ × ν)} {k : κ} {z : Value} {sz by_ : Nat} (i : Nat) (hF : Γ[i]? = some (mp E V b m)) (ht : P.underlying t = some (.map kt et)) (hk : P.underlying kt = some E.d) (hz : TI P et z sz by_) (hx : ev L x = some (.map (some b))) (hy : ev L y = some (E.enc k)) :
    Qt P G n D ⟨d, .lookup t x y true, ty, ps, af, gd⟩ L Γ (.tuple [((mlook m k).map V).getD z, .bool (mlook m k).isSome].toArray) := fun a w S hf hh => by
  obtain ⟨es, clk, hb, hm⟩ := hh.facts _ (List.mem_of_getElem? hF)
  have hck := run_checkKey (P := P) (w := w) hk (E.is k) es.isEmpty 9999
  have hrun : (Instr.lookup t (.map (some b)) (E.enc k) true).run P w = .ok (.tuple [((mlook m k).map V).getD z, .bool (mlook m k).isSome].toArray) w := by
    rcases findNow_at E V k es.toList m 0 hm with ⟨h1, h2, _⟩ | ⟨j, v, e, h1, h2, _⟩
    · simp [Instr.lookup, run_underlying ht, run_getObj hb, hck, run_findKey hk h2, h1, hz.zero]
    · simp [Instr.lookup, run_underlying ht, run_getObj hb, hck, run_findKey hk h2, h1]
  simp only [execOp, hf.eval hx, hf.eval hy, Sem.run_bind, hrun, Result.andThen_ok, Sem.run_pure]
theorem Qt.lenM {t kt et : TypeId} {x : Operand} {b : Nat} {E : KeyEnc κ} {V : ν → Value} {m : List (κ × ν)} (i : Nat) (hF : Γ[i]? = some (mp E V b m)) (ht : P.underlying t = some (.map kt et)) (hx : ev L x = some (.map (some b))) : Qt P G n D ⟨d, .call ⟨.builtin .len, #[x], #[t]⟩, ty, ps, af, gd⟩ L Γ (.int .i64 m.length) := fun a w S hf hh => by
  obtain ⟨es, clk, hb, hm⟩ := hh.facts _ (List.mem_of_getElem? hF)
  have hl : es.size = m.length := by have := congrArg List.length hm; simpa using this
  simp [execOp, resolve, invoke, builtin, Builtin.len_, run_underlying ht, hf.eval hx, goInt, run_getObj hb, hl]
theorem Ld.makeMap {t : TypeId} {E : KeyEnc κ} {V : ν → Value} : Ld P n D ⟨d, .makeMap t none, ty, ps, af, gd⟩ L [] fun v Δ => ∃ b, v = .map (some b) ∧ Δ = [mp E V b []] := by
  intro a hf w S hs
  refine ⟨.map (some w.heap.size), w.alloc (.map #[] 0), _, S, .inl ?_, ⟨w.heap.size, rfl, rfl⟩, Hold.one hs (Keeps.alloc _ _ _) _ ⟨#[], 0, heap_alloc_new w _, by simp⟩ (fun k hk => .inr (Nat.le_of_eq hk.symm))⟩
  simp [execOp, Instr.makeMap]
theorem run_update {t kt et : TypeId} {b : Nat} {E : KeyEnc κ} {V : ν → Value} {m : List (κ × ν)} {k : κ} {v : ν} {w : World} (ht : P.underlying t = some (.map kt et)) (hk : P.underlying kt = some E.d) {es : Array MapEntry} {clk : Nat} (hb : w.heap[b]? = some (.map es clk)) (hm : es.toList.map (fun e => (e.key, e.val)) = m.map fun p => (E.enc p.1, V p.2)) :
    ∃ es' clk', (Instr.mapUpdate t (.map (some b)) (E.enc k) (V v)).run P w = .ok () { w with heap := w.heap.setIfInBounds b (.map es' clk') } ∧ es'.toList.map (fun e => (e.key, e.val)) = (mset m k v).map fun p => (E.enc p.1, V p.2) := by
  have hck := run_checkKey (P := P) (w := w) hk (E.is k) false 9999
  rcases findNow_at E V k es.toList m 0 hm with ⟨h1, h2, h3⟩ | ⟨j, v', e, h1, h2, h3, h4, h5, h6, h7⟩
  · refine ⟨es.push { key := E.enc k, val := V v, born := clk }, clk + 1, ?_, ?_⟩
    · simp [Instr.mapUpdate, run_underlying ht, run_getObj hb, hck, run_findKey hk h2, run_setObj _ hb]
    · rw [h3]
      simp [hm]
  · refine ⟨es.modify j fun e => { e with key := E.enc k, val := V v }, clk, ?_, ?_⟩
    · have h3' : es[j]? = some e := by simpa using h3
      have hst := run_keyThatStays (P := P) (w := w) (E.is k)
      simp [Instr.mapUpdate, run_underlying ht, run_getObj hb, hck, run_findKey hk h2, h3', h4, hst, run_setObj _ hb]
    · rw [h6]
      apply List.ext_getElem?
      intro i
      have hmi := congrArg (·[i]?) hm
      simp only [List.getElem?_map] at hmi
      simp only [Array.toList_modify, List.getElem?_map, List.getElem?_modify, List.getElem?_set]
      by_cases hij : j = i
      · subst hij
        simp [h3, h5]
      · simpa [hij] using hmi
theorem Ld.update {t kt et : TypeId} {x y u : Operand} {b : Nat} {E : KeyEnc κ} {V : ν → Value} {m : List (κ × ν)} {k : κ} {v : ν} (ht : P.underlying t = some (.map kt et)) (hk : P.underlying kt = some E.d) (hx : ev L x = some (.map (some b))) (hy : ev L y = some (E.enc k)) (hu : ev L u = some (V v)) :
    Ld P n D ⟨d, .mapUpdate t x y u, ty, ps, af, gd⟩ L [mp E V b m] fun _ Δ => Δ = [mp E V b (mset m k v)] := by
  intro a hf w S hs
  obtain ⟨es, clk, hb, hm⟩ := hs.facts (mp E V b m) List.mem_cons_self
  obtain ⟨es', clk', hrun, hm'⟩ := run_update (k := k) (v := v) ht hk hb hm
  have hk' : Keeps (Own [mp E V b m]) w { w with heap := w.heap.setIfInBounds b (.map es' clk') } := ⟨rfl, rfl, rfl, by simp, fun k _ ho => (heap_set hb).2 k fun e => ho (Own.head (F := mp E V b m) e), Nat.le_refl _⟩
  refine ⟨undef, { w with heap := w.heap.setIfInBounds b (.map es' clk') }, _, S, .inr ⟨?_, rfl⟩, rfl, Hold.one hs hk' (mp E V b (mset m k v)) ⟨es', clk', (heap_set hb).1, hm'⟩ (fun k hk => .inl (Own.head (F := mp E V b m) hk))⟩
  simp only [execOp, hf.eval hx, hf.eval hy, hf.eval hu, Sem.run_bind, hrun, Result.andThen_ok, Sem.run_pure]
theorem Ld.insert {t kt et : TypeId} {x y u : Operand} {b : Nat} {E : KeyEnc κ} {V : ν → Value} {m : List (κ × ν)} {k : κ} {v : ν} (ht : P.underlying t = some (.map kt et)) (hk : P.underlying kt = some E.d) (hx : ev L x = some (.map (some b))) (hy : ev L y = some (E.enc k)) (hu : ev L u = some (V v)) :
    Ld P n D ⟨d, .insert t x y u, ty, ps, af, gd⟩ L [mp E V b m] fun _ Δ => Δ = [mp E V b (mset m k v)] :=
  Ld.update (d := d) (ty := ty) (ps := ps) (af := af) (gd := gd) ht hk hx hy hu
end

/-! ### Results that lie in memory -/
theorem run_loadVar_blk {t : TypeId} {b : Nat} {tb : TypeId} {cs vs : List Value} {z : Value} {sz by_ : Nat} {w : World} (hb : w.heap[b]? = some (.cells cs.toArray tb (0, 0))) (ht : TA P t true) (hi : TI P t z sz by_) (hv : cutL cs 0 sz = some vs) : (loadVar t ⟨b, 0, none⟩).run P w = .ok (.agg vs.toArray) w := by
  obtain ⟨hl, hg⟩ := cutL_get hv
  have hr := run_loadCells_list (P := P) (w := w) ⟨b, 0, none⟩ vs (fun j v hj => by
    rw [add_plain]
    exact blk_cell (S := fun _ => True) (t := tb) hb (hg j v hj))
  rw [hl] at hr
  simp [loadVar, ht.run, hi.size, hr]
theorem WX.retC {fn : Func} {R : Value → List Fact → Prop} {t  : Tmp} {ty : TypeId} {b : Nat} {tb : TypeId} {cs vs : List Value} {z  : Value} {sz by_ : Nat} {Γ' Γr : List Fact} (i : Nat) (s : Sel Γ Γ' Γr) (hr : fn.results = #[.cell t ty]) (hp : look L t = some (.pointer (some ⟨b, 0, none⟩))) (hF : Γ[i]? = some (blk b tb cs)) (ht : TA P ty true) (hi : TI P ty z sz by_) (hv : cutL cs 0 sz = some vs) (h : R (.agg vs.toArray) Γ') : WX (FQ P fn G R) G n [] .ret L Γ := by
  intro a w S hf hh
  have hl := run_loadVar_blk (hh.facts (blk b tb cs) (List.mem_of_getElem? hF)) ht hi hv
  refine bodyPost_ret (v := .agg vs.toArray) ?_ hf.defers ⟨_, Γ', S, rfl, h, hh.sub_sel s⟩
  simp [results, hr, Array.getD_eq_getD_getElem?, hf.slots t _ hp, asAddr, hl]
theorem WX.retC1 {fn : Func} {R : Value → List Fact → Prop} {t u : Tmp} {ty : TypeId} {b : Nat} {tb : TypeId} {cs vs : List Value} {z x : Value} {sz by_ : Nat} {Γ' Γr : List Fact} (i : Nat) (s : Sel Γ Γ' Γr) (hr : fn.results = #[.cell t ty, .tmp u]) (hp : look L t = some (.pointer (some ⟨b, 0, none⟩))) (hx : look L u = some x) (hF : Γ[i]? = some (blk b tb cs)) (ht : TA P ty true) (hi : TI P ty z sz by_) (hv : cutL cs 0 sz = some vs) (h : R (.tuple [.agg vs.toArray, x].toArray) Γ') : WX (FQ P fn G R) G n [] .ret L Γ := by
  intro a w S hf hh
  have hl := run_loadVar_blk (hh.facts (blk b tb cs) (List.mem_of_getElem? hF)) ht hi hv
  refine bodyPost_ret (v := .tuple [.agg vs.toArray, x].toArray) ?_ hf.defers ⟨_, Γ', S, rfl, h, hh.sub_sel s⟩
  simp [results, hr, Array.getD_eq_getD_getElem?, hf.slots t _ hp, asAddr, hl, hf.slots u _ hx]
theorem WX.retC2 {fn : Func} {R : Value → List Fact → Prop} {t u q : Tmp} {ty : TypeId} {b : Nat} {tb : TypeId} {cs vs : List Value} {z x y : Value} {sz by_ : Nat} {Γ' Γr : List Fact} (i : Nat) (s : Sel Γ Γ' Γr) (hr : fn.results = #[.cell t ty, .tmp u, .tmp q]) (hp : look L t = some (.pointer (some ⟨b, 0, none⟩))) (hx : look L u = some x) (hy : look L q = some y) (hF : Γ[i]? = some (blk b tb cs)) (ht : TA P ty true) (hi : TI P ty z sz by_) (hv : cutL cs 0 sz = some vs) (h : R (.tuple [.agg vs.toArray, x, y].toArray) Γ') : WX (FQ P fn G R) G n [] .ret L Γ := by
  intro a w S hf hh
  have hl := run_loadVar_blk (hh.facts (blk b tb cs) (List.mem_of_getElem? hF)) ht hi hv
  refine bodyPost_ret (v := .tuple [.agg vs.toArray, x, y].toArray) ?_ hf.defers ⟨_, Γ', S, rfl, h, hh.sub_sel s⟩
  simp [results, hr, Array.getD_eq_getD_getElem?, hf.slots t _ hp, asAddr, hl, hf.slots u _ hx, hf.slots q _ hy]
theorem WX.retC3 {fn : Func} {R : Value → List Fact → Prop} {t u q r : Tmp} {ty : TypeId} {b : Nat} {tb : TypeId} {cs vs : List Value} {z x y w0 : Value} {sz by_ : Nat} {Γ' Γr : List Fact} (i : Nat) (s : Sel Γ Γ' Γr) (hr : fn.results = #[.cell t ty, .tmp u, .tmp q, .tmp r]) (hp : look L t = some (.pointer (some ⟨b, 0, none⟩))) (hx : look L u = some x) (hy : look L q = some y) (hw0 : look L r = some w0) (hF : Γ[i]? = some (blk b tb cs)) (ht : TA P ty true) (hi : TI P ty z sz by_) (hv : cutL cs 0 sz = some vs) (h : R (.tuple [.agg vs.toArray, x, y, w0].toArray) Γ') : WX (FQ P fn G R) G n [] .ret L Γ := by
  intro a w S hf hh
  have hl := run_loadVar_blk (hh.facts (blk b tb cs) (List.mem_of_getElem? hF)) ht hi hv
  refine bodyPost_ret (v := .tuple [.agg vs.toArray, x, y, w0].toArray) ?_ hf.defers ⟨_, Γ', S, rfl, h, hh.sub_sel s⟩
  simp [results, hr, Array.getD_eq_getD_getElem?, hf.slots t _ hp, asAddr, hl, hf.slots u _ hx, hf.slots q _ hy, hf.slots r _ hw0]
end
end Go.Proofs.YtolggjmgfijjfaaGreatDoor.Sep

/- A block of one's own as a row of elements, its cells named: elements that are read, stored, cut out; and slices lent to those who read them. Nothing here speaks of a program. -/
namespace Go.Proofs.YtolggjmgfijjfaaGreatDoor.Sep
open Go

/-! ### Cells of an element -/
def el (sz : Nat) (cur : List Value) (j : Nat) : List Value := (cur.drop (j * sz)).take sz
theorem el_get (sz : Nat) (cur : List Value) (j o : Nat) (h : o < sz) : (el sz cur j)[o]? = cur[j * sz + o]? := by
  rw [el, List.getElem?_take, if_pos h, List.getElem?_drop]
theorem el_none (sz : Nat) (cur : List Value) (j o : Nat) (h : ¬ o < sz) : (el sz cur j)[o]? = none := by
  rw [el, List.getElem?_take, if_neg h]
theorem el_ext {sz : Nat} {cur : List Value} {j : Nat} {l : List Value} (hl : l.length ≤ sz) (h : ∀ o, o < sz → cur[j * sz + o]? = l[o]?) : el sz cur j = l := by
  apply List.ext_getElem?
  intro o
  rcases Nat.lt_or_ge o sz with ho | ho
  · rw [el_get _ _ _ _ ho, h o ho]
  · rw [el_none _ _ _ _ (by omega), List.getElem?_eq_none (by omega)]
/-- Cells written over. -/
def over (cur : List Value) (q : Nat) (vs : List Value) : List Value := cur.take q ++ vs ++ cur.drop (q + vs.length)
theorem over_length {cur : List Value} {q : Nat} {vs : List Value} (h : q + vs.length ≤ cur.length) : (over cur q vs).length = cur.length := by
  simp [over]
  omega
theorem over_get {cur : List Value} {q : Nat} {vs : List Value} (h : q + vs.length ≤ cur.length) (i : Nat) : (over cur q vs)[i]? = if i < q then cur[i]? else if i < q + vs.length then vs[i - q]? else cur[i]? := by
  have hq : (cur.take q).length = q := by rw [List.length_take]; omega
  unfold over
  rw [List.append_assoc]
  split
  · rename_i h1
    rw [List.getElem?_append_left (by omega), List.getElem?_take, if_pos h1]
  · rename_i h1
    rw [List.getElem?_append_right (by omega), hq]
    split
    · rename_i h2
      rw [List.getElem?_append_left (by omega)]
    · rename_i h2
      rw [List.getElem?_append_right (by omega), List.getElem?_drop]
      congr 1
      omega
theorem mul_lt_of {j j' sz o : Nat} (h : j' < j) (ho : o < sz) : j' * sz + o < j * sz := by
  have : (j' + 1) * sz ≤ j * sz := Nat.mul_le_mul_right _ h
  rw [Nat.succ_mul] at this
  omega
theorem el_over_other {sz : Nat} {cur : List Value} {j j' o : Nat} {vs : List Value} (hfit : j * sz + o + vs.length ≤ cur.length) (ho : o + vs.length ≤ sz) (hne : j' ≠ j) : el sz (over cur (j * sz + o) vs) j' = el sz cur j' := by
  apply List.ext_getElem?
  intro i
  rcases Nat.lt_or_ge i sz with hi | hi
  · rw [el_get _ _ _ _ hi, el_get _ _ _ _ hi, over_get hfit]
    rcases Nat.lt_or_ge j' j with h | h
    · rw [if_pos (by have := mul_lt_of h hi; omega)]
    · have := mul_lt_of (show j < j' by omega) (o := o + vs.length - 1) (sz := sz)
      by_cases hv : vs.length = 0
      · split
        · rfl
        · rw [if_neg (by omega)]
      · have := this (by omega)
        rw [if_neg (by omega), if_neg (by omega)]
  · rw [el_none _ _ _ _ (by omega), el_none _ _ _ _ (by omega)]
theorem el_over_self {sz : Nat} {cur : List Value} {j o : Nat} {vs r : List Value} (hfit : j * sz + sz ≤ cur.length) (hp : pokeL (el sz cur j) o vs = some r) : el sz (over cur (j * sz + o) vs) j = r := by
  obtain ⟨h1, h2⟩ := pokeL_eq _ _ _ _ hp
  have hl : (el sz cur j).length = sz := by rw [el, List.length_take, List.length_drop]; omega
  have hr : r = over (el sz cur j) o vs := h1
  rw [hl] at h2
  subst hr
  refine el_ext (by rw [over_length (by omega), hl]; exact Nat.le_refl _) fun i hi => ?_
  rw [over_get (by omega), over_get (by omega), el_get _ _ _ _ hi]
  by_cases h3 : i < o
  · rw [if_pos (by omega), if_pos h3]
  · rw [if_neg (by omega), if_neg h3]
    by_cases h4 : i < o + vs.length
    · rw [if_pos (by omega), if_pos h4]
      congr 1
      omega
    · rw [if_neg (by omega), if_neg h4]
section
variable {α : Type}
/-- A row of one's own, at the start of its block, its cells known. -/
def rowL (e : Kd α) (t : TypeId) (b c : Nat) (xs : List α) (cur : List Value) : Fact where
  own k := k = b
  ok S w := w.heap[b]? = some (.cells cur.toArray t (0, 0)) ∧ cur.length = c * e.sz ∧ xs.length ≤ c ∧ c ≤ 9223372036854775807 ∧ ∀ (j : Nat) (h : j < xs.length), e.K S w xs[j] (el e.sz cur j)
  lt S w k h hk := by subst hk; exact (Array.getElem?_eq_some_iff.1 h.1).1
  stable S S' w w' h hs hb := ⟨by rw [hb b (.inl rfl)]; exact h.1, h.2.1, h.2.2.1, h.2.2.2.1, fun j hj => e.stable _ _ _ _ _ _ (h.2.2.2.2 j hj) hs fun k hk => hb k (.inr hk)⟩
theorem rowL_fit {e : Kd α} {t : TypeId} {b c : Nat} {xs : List α} {cur : List Value} {S : Nat → Prop} {w : World} (h : (rowL e t b c xs cur).ok S w) {j : Nat} (hj : j < xs.length) : j * e.sz + e.sz ≤ cur.length := by
  rw [h.2.1, ← Nat.succ_mul]
  exact Nat.mul_le_mul_right _ (by have := h.2.2.1; omega)
theorem rowL_bounds {e : Kd α} {t : TypeId} {b c : Nat} {xs : List α} {cur : List Value} {S : Nat → Prop} {w : World} (h : (rowL e t b c xs cur).ok S w) : xs.length ≤ c ∧ c ≤ 9223372036854775807 := ⟨h.2.2.1, h.2.2.2.1⟩
theorem row_open {e : Kd α} {t : TypeId} {A : Option Addr} {c : Nat} {xs : List α} (hne : 0 < xs.length) : ∀ S w, Start [row e t A c xs] S w → ∃ Δ S', (∃ b cur, A = some ⟨b, 0, none⟩ ∧ Δ = [rowL e t b c xs cur]) ∧ Hold ⟨w, S, Own [row e t A c xs], True⟩ Δ S' w := by
  intro S w hs
  obtain ⟨l, ho, hr⟩ := hs.facts _ List.mem_cons_self
  rcases ho.2 with ⟨_, h0⟩ | ⟨g, cap, cur, h1, _, h3, h4, h5, h6, h7⟩
  · omega
  · injection h1 with hA _ hc
    subst hA hc
    refine ⟨_, S, ⟨g, cur.toList, rfl, rfl⟩, Hold.one hs (Keeps.refl _ _) _ ⟨by simpa using h3, by simpa using h6, h4, h5, fun j hj => ?_⟩ (fun k hk => .inl (Own.head (F := row e t _ c xs) ⟨_, rfl, hk.symm⟩))⟩
    have := hr.2 j hj
    rw [← h7] at this
    have he : ((cur.toList.take (xs.length * e.sz)).drop (j * e.sz)).take e.sz = el e.sz cur.toList j := by
      rw [el, List.drop_take, List.take_take]
      congr 1
      have : (j + 1) * e.sz ≤ xs.length * e.sz := Nat.mul_le_mul_right _ hj
      rw [Nat.succ_mul] at this
      omega
    rwa [he] at this
theorem row_close {e : Kd α} {t : TypeId} {b c : Nat} {xs : List α} {cur : List Value} : ∀ S w, Start [rowL e t b c xs cur] S w → ∃ Δ S', Δ = [row e t (some ⟨b, 0, none⟩) c xs] ∧ Hold ⟨w, S, Own [rowL e t b c xs cur], True⟩ Δ S' w := by
  intro S w hs
  have h : (rowL e t b c xs cur).ok S w := hs.facts _ List.mem_cons_self
  have hle : xs.length * e.sz ≤ cur.length := by rw [h.2.1]; exact Nat.mul_le_mul_right _ h.2.2.1
  have hl : (cur.take (xs.length * e.sz)).length = xs.length * e.sz := by rw [List.length_take]; omega
  refine ⟨_, S, rfl, Hold.one hs (Keeps.refl _ _) _ ⟨cur.take (xs.length * e.sz), ⟨hl, .inr ⟨b, c, cur.toArray, rfl, Nat.zero_le _, h.1, h.2.2.1, h.2.2.2.1, by simpa using h.2.1, by simp⟩⟩, hl, fun j hj => ?_⟩ (fun k hk => .inl (Own.head (F := rowL e t b c xs cur) ?_))⟩
  · have he : ((cur.take (xs.length * e.sz)).drop (j * e.sz)).take e.sz = el e.sz cur j := by
      rw [el, List.drop_take, List.take_take]
      congr 1
      have : (j + 1) * e.sz ≤ xs.length * e.sz := Nat.mul_le_mul_right _ hj
      rw [Nat.succ_mul] at this
      omega
    rw [he]
    exact h.2.2.2.2 j hj
  · obtain ⟨p, hp, rfl⟩ := hk
    injection hp with hp
    subst hp
    rfl
/-- A shorter row. -/
theorem rowL_take {e : Kd α} {t : TypeId} {b c : Nat} {xs : List α} {cur : List Value} (k : Nat) : ∀ S w, Start [rowL e t b c xs cur] S w → ∃ Δ S', Δ = [rowL e t b c (xs.take k) cur] ∧ Hold ⟨w, S, Own [rowL e t b c xs cur], True⟩ Δ S' w := by
  intro S w hs
  have h : (rowL e t b c xs cur).ok S w := hs.facts _ List.mem_cons_self
  refine ⟨_, S, rfl, Hold.one hs (Keeps.refl _ _) _ ⟨h.1, h.2.1, by have := h.2.2.1; simp; omega, h.2.2.2.1, fun j hj => ?_⟩ (fun k hk => .inl (Own.head (F := rowL e t b c xs cur) hk))⟩
  have hj' : j < xs.length := by simp at hj; omega
  have := h.2.2.2.2 j hj'
  rwa [List.getElem_take]
/-- What an element's cells say. -/
theorem rowL_at {e : Kd α} {t : TypeId} {b c : Nat} {xs : List α} {cur : List Value} (j : Nat) (hj : j < xs.length) {Z : Type} {cells : Z → List Value} {facts : Z → List Fact}
    (V : ∀ S w cs, e.K S w xs[j] cs → ∃ z, cs = cells z ∧ ∀ F, F ∈ facts z → F.ok S w ∧ ∀ k, ¬ F.own k) :
    ∀ S w, (rowL e t b c xs cur).ok S w → ∃ z, el e.sz cur j = cells z ∧ ∀ X, X ∈ facts z → X.ok S w ∧ ∀ k, ¬ X.own k := fun S w h => V S w _ (h.2.2.2.2 j hj)
/-- It may be read like a settled one. -/
theorem rowL_rd {e : Kd α} {t : TypeId} {b c : Nat} {xs : List α} {cur : List Value} {S : Nat → Prop} {w : World} (h : (rowL e t b c xs cur).ok S w) : (rd e (some ⟨b, 0, none⟩) c xs).ok (fun k => S k ∨ k = b) w := by
  refine ⟨h.2.2.1, h.2.2.2.1, fun j hj => ⟨_, rfl, .inr rfl, _, e.stable _ _ _ _ _ _ (h.2.2.2.2 j hj) (fun k h => .inl h) (fun _ _ => rfl), fun i u hu => ?_⟩⟩
  rw [add_plain, Nat.zero_add]
  have hi : i < e.sz := by
    rcases Nat.lt_or_ge i e.sz with h' | h'
    · exact h'
    · rw [el_none _ _ _ _ (by omega)] at hu
      cases hu
  rw [el_get _ _ _ _ hi] at hu
  simp [World.cell?, h.1, hu]

/-! ### Reading it -/
section
variable {P : Program} {G : Ctx} {n : Nat} {D : List Deferred} {L : List (Nat × Value)} {Γ : List Fact}
variable {d : Option Nat} {ty : TypeId} {ps : String} {af : Array Edge} {gd : Option (Nat × Bool)}
variable {e : Kd α} {tb : TypeId} {b c : Nat} {xs : List α} {cur : List Value}
theorem Qt.indexAddrB {t e' : TypeId} {x y : Operand} {z : Value} {sz by_ : Nat} {m c : Nat} {k : IntKind} (j : Nat) (ht : P.underlying t = some (.slice e')) (hi : TI P e' z sz by_) (hx : ev L x = some (.slice (some ⟨b, 0, none⟩) m c)) (hy : ev L y = some (.int k (j : Int))) (h1 : j < m) :
    Qt P G n D ⟨d, .indexAddr t x y, ty, ps, af, gd⟩ L Γ (.pointer (some ⟨b, j * sz, none⟩)) := by
  have := Qt.indexAddrE (P := P) (G := G) (n := n) (D := D) (Γ := Γ) (d := d) (ty := ty) (ps := ps) (af := af) (gd := gd) (p := ⟨b, 0, none⟩) j rfl ht hi hx hy h1
  rwa [add_plain, Nat.zero_add] at this
theorem rowL_cell {S : Nat → Prop} {w : World} (h : (rowL e tb b c xs cur).ok S w) {cs : List Value} {j o : Nat} (hc : el e.sz cur j = cs) {v : Value} (hv : cs[o]? = some v) : w.cell? ⟨b, j * e.sz + o, none⟩ = some v := by
  subst hc
  have hi : o < e.sz := by
    rcases Nat.lt_or_ge o e.sz with h' | h'
    · exact h'
    · rw [el_none _ _ _ _ (by omega)] at hv
      cases hv
  rw [el_get _ _ _ _ hi] at hv
  simp [World.cell?, h.1, hv]
theorem Qt.loadR {t : TypeId} {x : Operand} {j o : Nat} {cs : List Value} {v : Value} (i : Nat) (hF : Γ[i]? = some (rowL e tb b c xs cur)) (hc : el e.sz cur j = cs) (ht : TA P t false) (hx : ev L x = some (.pointer (some ⟨b, j * e.sz + o, none⟩))) (hv : getL cs o = some v) : Qt P G n D ⟨d, .load t x, ty, ps, af, gd⟩ L Γ v := fun a w S hf hh => by
  rw [getL_eq] at hv
  have hc := rowL_cell (hh.facts _ (List.mem_of_getElem? hF)) hc hv
  simp [execOp, hf.eval hx, Instr.loadAt, Instr.sureAddr, loadVar, ht.run, hc]
theorem Qt.loadRA {t : TypeId} {x : Operand} {j o : Nat} {cs vs : List Value} {z : Value} {sz by_ : Nat} (i : Nat) (hF : Γ[i]? = some (rowL e tb b c xs cur)) (hc : el e.sz cur j = cs) (ht : TA P t true) (hi : TI P t z sz by_) (hx : ev L x = some (.pointer (some ⟨b, j * e.sz + o, none⟩))) (hv : cutL cs o sz = some vs) : Qt P G n D ⟨d, .load t x, ty, ps, af, gd⟩ L Γ (.agg vs.toArray) := fun a w S hf hh => by
  obtain ⟨hl, hg⟩ := cutL_get hv
  have hr := run_loadCells_list (P := P) (w := w) ⟨b, j * e.sz + o, none⟩ vs (fun i v hi => by
    rw [add_plain, Nat.add_assoc]; exact rowL_cell (hh.facts _ (List.mem_of_getElem? hF)) hc (hg i v hi))
  rw [hl] at hr
  simp [execOp, hf.eval hx, Instr.loadAt, Instr.sureAddr, loadVar, ht.run, hi.size, hr]

/-! ### Storing an element -/
theorem Ld.storeR {t : TypeId} {x y : Operand} {j o : Nat} {cs vs cs' : List Value} {v z : Value} {sz by_ : Nat} {U : List Fact} (x' : α) (hj : j < xs.length) (hc : el e.sz cur j = cs) (hi : TI P t z sz by_) (hx : ev L x = some (.pointer (some ⟨b, j * e.sz + o, none⟩))) (hy : ev L y = some v) (hv : v.cells.toList = vs) (hl : vs.length = sz) (h1 : ones vs = true) (hp : pokeL cs o vs = some cs')
    (hK : ∀ S w, (∀ F, F ∈ U → F.ok S w) → e.K S w x' cs') :
    Ld P n D ⟨d, .store t x y, ty, ps, af, gd⟩ L (rowL e tb b c xs cur :: U) fun v Δ => ∃ cur', el e.sz cur' j = cs' ∧ (∀ j', j' ≠ j → el e.sz cur' j' = el e.sz cur j') ∧ Δ = [rowL e tb b c (xs.set j x') cur'] := by
  intro a hf w S hs
  have h : (rowL e tb b c xs cur).ok S w := hs.facts _ List.mem_cons_self
  have hfit := rowL_fit h hj
  subst hc
  obtain ⟨he, hle⟩ := pokeL_eq _ _ _ _ hp
  have hsz : v.cells.size = sz := by rw [← hl, ← hv]; simp
  have hlen : (el e.sz cur j).length = e.sz := by rw [el, List.length_take, List.length_drop]; omega
  have hst := run_storeCells_at P b (j * e.sz + o) tb vs 0 cur.toArray w h.1 (by simp; omega) (ones_all vs h1)
  simp only [Nat.add_zero] at hst
  have hrun : (Instr.storeAt t (.pointer (some ⟨b, j * e.sz + o, none⟩)) v).run P w = .ok () (w.setRow b (over cur (j * e.sz + o) vs).toArray) := by
    simp only [Instr.storeAt, Instr.sureAddr, Sem.run_bind, Sem.run_pure, Result.andThen_ok, storeVar, hi.size, hsz, ne_eq, not_true_eq_false, if_false, hv]
    rw [hst]
    rfl
  have hself := el_over_self (o := o) (vs := vs) hfit hp
  have hother : ∀ j', j' ≠ j → el e.sz (over cur (j * e.sz + o) vs) j' = el e.sz cur j' := fun j' hne => el_over_other (by omega) (by omega) hne
  have hkeep : ∀ k, S k → (w.setRow b (over cur (j * e.sz + o) vs).toArray).heap[k]? = w.heap[k]? := fun k hk => setRow_other w b k _ fun e' => hs.notS (k := k) (.inl (Own.head (F := rowL e tb b c xs cur) e')) hk
  refine ⟨undef, w.setRow b (over cur (j * e.sz + o) vs).toArray, _, S, .inr ⟨?_, rfl⟩, ⟨_, hself, hother, rfl⟩, ?_⟩
  · simp [execOp, hf.eval hx, hf.eval hy, hrun]
  · refine Hold.one hs (Keeps.setRow w b _ (Own.head (F := rowL e tb b c xs cur) rfl)) _ ⟨setRow_heap w b _ _ _ _ h.1, by rw [over_length (by omega)]; exact h.2.1, by simpa using h.2.2.1, h.2.2.2.1, fun i hi' => ?_⟩ (fun k hk => .inl (Own.head (F := rowL e tb b c xs cur) hk))
    rcases Nat.lt_or_ge i i with h' | _
    · omega
    · by_cases hij : i = j
      · subst hij
        rw [List.getElem_set_self, hself]
        exact e.stable _ _ _ _ _ _ (hK S w fun F hF => hs.facts F (List.mem_cons_of_mem _ hF)) (fun _ h => h) hkeep
      · rw [List.getElem_set_ne (Ne.symm hij), hother i hij]
        exact e.stable _ _ _ _ _ _ (h.2.2.2.2 i (by simpa using hi')) (fun _ h => h) hkeep

/-! ### Slices of it -/
/-- xs[i:] of whatever slice, i within its length -/
theorem Qt.cutLowB {t e' : TypeId} {x y : Operand} {z : Value} {sz by_ : Nat} {A : Option Addr} {m c i : Nat} {k : IntKind} (ht : P.underlying t = some (.slice e')) (hi : TI P e' z sz by_) (hx : ev L x = some (.slice A m c)) (hy : ev L y = some (.int k (i : Int))) (h1 : i ≤ m) (h2 : m ≤ c) :
    Qt P G n D ⟨d, .slice t x (some y) none none, ty, ps, af, gd⟩ L Γ (.slice (cutA c i A sz) (m - i) (c - i)) := Qt.cutLow ht hi hx hy h1 h2
/-- xs[i:j] -/
theorem Qt.cutMid {t e' : TypeId} {x y u : Operand} {z : Value} {sz by_ : Nat} {A : Option Addr} {m c i j : Nat} {k k' : IntKind} (ht : P.underlying t = some (.slice e')) (hi : TI P e' z sz by_) (hx : ev L x = some (.slice A m c)) (hy : ev L y = some (.int k (i : Int))) (hu : ev L u = some (.int k' (j : Int))) (h1 : i ≤ j) (h2 : j ≤ c) :
    Qt P G n D ⟨d, .slice t x (some y) (some u) none, ty, ps, af, gd⟩ L Γ (.slice (cutA c i A sz) (j - i) (c - i)) := fun a w S hf hh => by
  simp [execOp, hf.eval hx, hf.eval hy, hf.eval hu, Instr.sliceAt, Instr.slice, Instr.sliceBounds, Instr.sliceBound, run_underlying ht, asIntOf, h1, h2, hi.size, Int.ofNat_le.2 h1, Int.ofNat_le.2 h2, cutA]
/-- xs[i:j:m] -/
theorem Qt.cut3 {t e' : TypeId} {x y u q : Operand} {z : Value} {sz by_ : Nat} {A : Option Addr} {m c i j l : Nat} {k k' k'' : IntKind} (ht : P.underlying t = some (.slice e')) (hi : TI P e' z sz by_) (hx : ev L x = some (.slice A m c)) (hy : ev L y = some (.int k (i : Int))) (hu : ev L u = some (.int k' (j : Int))) (hq : ev L q = some (.int k'' (l : Int))) (h1 : i ≤ j) (h2 : j ≤ l) (h3 : l ≤ c) :
    Qt P G n D ⟨d, .slice t x (some y) (some u) (some q), ty, ps, af, gd⟩ L Γ (.slice (cutA l i A sz) (j - i) (l - i)) := fun a w S hf hh => by
  simp [execOp, hf.eval hx, hf.eval hy, hf.eval hu, hf.eval hq, Instr.sliceAt, Instr.slice, Instr.sliceBounds, Instr.sliceBound, run_underlying ht, asIntOf, h1, h2, h3, hi.size, Int.ofNat_le.2 h1, Int.ofNat_le.2 h2, Int.ofNat_le.2 h3, cutA]
end
end
end Go.Proofs.YtolggjmgfijjfaaGreatDoor.Sep

/- Elements cut out of a row of one's own; slices lent to those who read them; facts in one. Nothing here speaks of a program. -/
namespace Go.Proofs.YtolggjmgfijjfaaGreatDoor.Sep
open Go

section
variable {α : Type}
/-! ### What delete leaves -/
/-- Cells with elements i to j cut out, of n. -/
def gone (sz : Nat) (cur : List Value) (i j n : Nat) : List Value := over cur (i * sz) ((cur.drop (j * sz)).take ((n - j) * sz))
theorem gone_fit {sz : Nat} {cur : List Value} {i j n : Nat} (hij : i ≤ j) (hj : j ≤ n) (hn : n * sz ≤ cur.length) : ((cur.drop (j * sz)).take ((n - j) * sz)).length = (n - j) * sz ∧ i * sz + (n - j) * sz ≤ cur.length := by
  have h1 : j * sz + (n - j) * sz = n * sz := by rw [← Nat.add_mul]; congr 1; omega
  have h2 : i * sz ≤ j * sz := Nat.mul_le_mul_right _ hij
  refine ⟨?_, by omega⟩
  rw [List.length_take, List.length_drop]
  omega
theorem el_gone {sz : Nat} {cur : List Value} {i j n k : Nat} (hij : i ≤ j) (hj : j ≤ n) (hn : n * sz ≤ cur.length) (hk : k < i + (n - j)) : el sz (gone sz cur i j n) k = if k < i then el sz cur k else el sz cur (k - i + j) := by
  obtain ⟨h1, h2⟩ := gone_fit (sz := sz) (cur := cur) hij hj hn
  apply List.ext_getElem?
  intro o
  rcases Nat.lt_or_ge o sz with ho | ho
  · rw [el_get _ _ _ _ ho, gone, over_get (by rw [h1]; exact h2), h1]
    by_cases h3 : k < i
    · rw [if_pos h3, el_get _ _ _ _ ho, if_pos (mul_lt_of h3 ho)]
    · rw [if_neg h3, el_get _ _ _ _ ho]
      have h4 : i * sz ≤ k * sz := Nat.mul_le_mul_right _ (by omega)
      have h5 : k * sz + o < (i + (n - j)) * sz := mul_lt_of hk ho
      rw [Nat.add_mul] at h5
      rw [if_neg (by omega), if_pos (by omega), List.getElem?_take, if_pos (by omega), List.getElem?_drop]
      congr 1
      have h6 : (k - i + j) * sz = k * sz - i * sz + j * sz := by rw [Nat.add_mul, Nat.sub_mul]
      rw [h6]
      omega
  · rw [el_none _ _ _ _ (by omega)]
    split
    · rw [el_none _ _ _ _ (by omega)]
    · rw [el_none _ _ _ _ (by omega)]
variable {P : Program} {G : Ctx} {n : Nat} {D : List Deferred} {L : List (Nat × Value)} {Γ : List Fact}
variable {d : Option Nat} {ty : TypeId} {ps : String} {af : Array Edge} {gd : Option (Nat × Bool)}
variable {e : Kd α} {tb : TypeId} {b c : Nat} {xs : List α} {cur : List Value}
theorem run_append_self {t : TypeId} {z : Value} {by_ : Nat} {w : World} {i j m : Nat} {cur : List Value} {sz cb : Nat} (ht : P.underlying t = some (.slice tb)) (hi : TI P tb z sz by_) (hb : w.heap[b]? = some (.cells cur.toArray tb (0, 0))) (hij : i ≤ j) (hj : j ≤ m) (hm : m ≤ c) (hl : cur.length = c * sz) (h1 : ∀ u, u ∈ (cur.drop (j * sz)).take ((m - j) * sz) → u.oneCell' = true) (rt : TypeId) :
    (Builtin.append_ #[t, t] rt #[.slice (some ⟨b, 0, none⟩) i c, .slice (cutA c j (some ⟨b, 0, none⟩) sz) (m - j) cb]).run P w = .ok (.slice (some ⟨b, 0, none⟩) (i + (m - j)) c) (w.setRow b (gone sz cur i j m).toArray) := by
  have hmc : m * sz ≤ cur.length := by rw [hl]; exact Nat.mul_le_mul_right _ hm
  obtain ⟨g1, g2⟩ := gone_fit (sz := sz) (cur := cur) hij hj hmc
  obtain ⟨inf, i1, i2, i3, i4⟩ := hi
  have hsrc : ∃ p, cutA c j (some ⟨b, 0, none⟩) sz = some p ∧ ∀ k u, ((cur.drop (j * sz)).take ((m - j) * sz))[k]? = some u → w.cell? (p.add k) = some u := by
    by_cases hcj : c = j
    · refine ⟨⟨b, 0, none⟩, by simp [cutA, hcj], fun k u hk => ?_⟩
      have : m - j = 0 := by omega
      rw [this] at hk
      simp at hk
    · refine ⟨⟨b, j * sz, none⟩, by simp [cutA, hcj, add_plain], fun k u hk => ?_⟩
      rw [add_plain]
      rw [List.getElem?_take] at hk
      split at hk
      · rw [List.getElem?_drop] at hk
        simp [World.cell?, hb, hk]
      · cases hk
  obtain ⟨p, hp, hcell⟩ := hsrc
  have hf := run_firstCells_some (P := P) (w := w) sz (m - j) p (m - j) cb _ g1 hcell
  have hst := run_storeCells_at P b (i * sz) tb ((cur.drop (j * sz)).take ((m - j) * sz)) 0 cur.toArray w hb (by rw [g1]; simpa using g2) h1
  have hroom : i + (m - j) ≤ c := by omega
  simp only [Nat.add_zero] at hst
  have hadd : (⟨b, 0, none⟩ : Addr).add (i * sz) = ⟨b, i * sz, none⟩ := by rw [add_plain, Nat.zero_add]
  simp [Builtin.append_, run_underlying ht, sizeOf, typeInfo, i1, i3, Builtin.lenOf, hp, hf, hroom, hadd, hst, gone, over]
theorem Ld.appendSelf {t : TypeId} {x y : Operand} {z : Value} {by_ : Nat} {i j cb : Nat} (ht : P.underlying t = some (.slice tb)) (hi : TI P tb z e.sz by_) (hx : ev L x = some (.slice (some ⟨b, 0, none⟩) i c)) (hy : ev L y = some (.slice (cutA c j (some ⟨b, 0, none⟩) e.sz) (xs.length - j) cb)) (hij : i ≤ j) (hj : j ≤ xs.length) :
    Ld P n D ⟨d, .call ⟨.builtin .append, #[x, y], #[t, t]⟩, ty, ps, af, gd⟩ L [rowL e tb b c xs cur] fun v Δ => v = .slice (some ⟨b, 0, none⟩) (xs.take i ++ xs.drop j).length c ∧ Δ = [rowL e tb b c (xs.take i ++ xs.drop j) (gone e.sz cur i j xs.length)] := by
  intro a hf w S hs
  have h : (rowL e tb b c xs cur).ok S w := hs.facts _ List.mem_cons_self
  have hmc : xs.length * e.sz ≤ cur.length := by rw [h.2.1]; exact Nat.mul_le_mul_right _ h.2.2.1
  obtain ⟨g1, g2⟩ := gone_fit (sz := e.sz) (cur := cur) hij hj hmc
  have hone : ∀ u, u ∈ (cur.drop (j * e.sz)).take ((xs.length - j) * e.sz) → u.oneCell' = true := by
    intro u hu
    obtain ⟨k, hk, rfl⟩ := List.mem_iff_getElem.1 hu
    rw [g1] at hk
    have hpos : 0 < e.sz := by
      rcases Nat.eq_zero_or_pos e.sz with h0 | h0
      · rw [h0] at hk; omega
      · exact h0
    have hq : k / e.sz < xs.length - j := (Nat.div_lt_iff_lt_mul hpos).2 hk
    have hdm : k / e.sz * e.sz + k % e.sz = k := by rw [Nat.mul_comm]; exact Nat.div_add_mod k e.sz
    refine e.one _ _ _ _ (h.2.2.2.2 (j + k / e.sz) (by omega)) _ (List.mem_iff_getElem?.2 ⟨k % e.sz, ?_⟩)
    rw [el_get _ _ _ _ (Nat.mod_lt _ hpos)]
    rw [← List.getElem?_eq_getElem, List.getElem?_take, if_pos hk, List.getElem?_drop]
    congr 1
    rw [Nat.add_mul]
    omega
  have hlen : (xs.take i ++ xs.drop j).length = i + (xs.length - j) := by rw [List.length_append, List.length_take, List.length_drop]; omega
  have hrun := run_append_self (P := P) (b := b) (cb := cb) ht hi h.1 hij hj h.2.2.1 h.2.1 hone ty
  have hkeep : ∀ k, S k → (w.setRow b (gone e.sz cur i j xs.length).toArray).heap[k]? = w.heap[k]? := fun k hk => setRow_other w b k _ fun e' => hs.notS (k := k) (.inl (Own.head (F := rowL e tb b c xs cur) e')) hk
  refine ⟨_, w.setRow b (gone e.sz cur i j xs.length).toArray, _, S, .inl ?_, ⟨rfl, rfl⟩, ?_⟩
  · simp [execOp, resolve, invoke, builtin, hf.eval hx, hf.eval hy, hrun]
    omega
  · refine Hold.one hs (Keeps.setRow w b _ (Own.head (F := rowL e tb b c xs cur) rfl)) _ ⟨setRow_heap w b _ _ _ _ h.1, by rw [gone, over_length (by rw [g1]; exact g2)]; exact h.2.1, by rw [hlen]; have := h.2.2.1; omega, h.2.2.2.1, fun k hk => ?_⟩ (fun k hk => .inl (Own.head (F := rowL e tb b c xs cur) hk))
    rw [hlen] at hk
    rw [el_gone hij hj hmc hk]
    by_cases hki : k < i
    · rw [if_pos hki, List.getElem_append_left (by rw [List.length_take]; omega), List.getElem_take]
      exact e.stable _ _ _ _ _ _ (h.2.2.2.2 k (by omega)) (fun _ h => h) hkeep
    · rw [if_neg hki, List.getElem_append_right (by rw [List.length_take]; omega), List.getElem_drop]
      have e1 : j + (k - (xs.take i).length) = k - i + j := by rw [List.length_take]; omega
      have := h.2.2.2.2 (k - i + j) (by omega)
      simp only [e1]
      exact e.stable _ _ _ _ _ _ this (fun _ h => h) hkeep
theorem zeroCells_one {cs : Array Value} {m : Nat} (h : ones cs.toList = true) : ∀ u, u ∈ (Builtin.zeroCells cs m).toList → u.oneCell' = true := by
  intro u hu
  simp only [Builtin.zeroCells, Array.toList_map, List.mem_map] at hu
  obtain ⟨i, hi, rfl⟩ := hu
  have hi' : i < m * cs.size := by simpa using hi
  have hpos : 0 < cs.size := by
    rcases Nat.eq_zero_or_pos cs.size with h0 | h0
    · rw [h0] at hi'; omega
    · exact h0
  have hlt : i % cs.size < cs.size := Nat.mod_lt _ hpos
  rw [getElem!_pos cs _ hlt]
  exact ones_all _ h _ (by simp)
/-- 'clear' behind the row's end. -/
theorem Ld.clearR {t : TypeId} {x : Operand} {z : Value} {by_ : Nat} {i m cb : Nat} (ht : P.underlying t = some (.slice tb)) (hi : TI P tb z e.sz by_) (hz : z.cells.size = e.sz) (ho : ones z.cells.toList = true) (hx : ev L x = some (.slice (cutA c i (some ⟨b, 0, none⟩) e.sz) (m - i) cb)) (hxs : xs.length ≤ i) (him : i ≤ m) (hm : m ≤ c) :
    Ld P n D ⟨d, .call ⟨.builtin .clear, #[x], #[t]⟩, ty, ps, af, gd⟩ L [rowL e tb b c xs cur] fun v Δ => ∃ cur', v = .tuple #[] ∧ Δ = [rowL e tb b c xs cur'] := by
  intro a hf w S hs
  have h : (rowL e tb b c xs cur).ok S w := hs.facts _ List.mem_cons_self
  rcases Nat.eq_zero_or_pos (m - i) with h0 | h0
  · refine ⟨.tuple #[], w, _, S, .inl ?_, ⟨cur, rfl, rfl⟩, hs⟩
    rw [h0] at hx
    have : (Builtin.clear_ #[t] ty #[.slice (cutA c i (some ⟨b, 0, none⟩) e.sz) 0 cb]).run P w = .ok (.tuple #[]) w := by
      unfold cutA
      by_cases hci : c = i <;> simp [Builtin.clear_, run_underlying ht, hci]
    simp [execOp, resolve, invoke, builtin, hf.eval hx, this]
  · have hci : ¬ c = i := by omega
    have hmc : m * e.sz ≤ cur.length := by rw [h.2.1]; exact Nat.mul_le_mul_right _ hm
    have hzl : (Builtin.zeroCells z.cells (m - i)).toList.length = (m - i) * e.sz := by simp [Builtin.zeroCells, hz]
    have hfit : i * e.sz + (m - i) * e.sz ≤ cur.length := by
      rw [← Nat.add_mul]
      have : i + (m - i) = m := by omega
      rw [this]
      exact hmc
    have hst := run_storeCells_at P b (i * e.sz) tb (Builtin.zeroCells z.cells (m - i)).toList 0 cur.toArray w h.1 (by rw [hzl]; simpa using hfit) (zeroCells_one ho)
    simp only [Nat.add_zero] at hst
    have hA : cutA c i (some ⟨b, 0, none⟩) e.sz = some ⟨b, i * e.sz, none⟩ := by simp [cutA, hci, add_plain]
    have hrun : (Builtin.clear_ #[t] ty #[.slice (cutA c i (some ⟨b, 0, none⟩) e.sz) (m - i) cb]).run P w = .ok (.tuple #[]) (w.setRow b (over cur (i * e.sz) (Builtin.zeroCells z.cells (m - i)).toList).toArray) := by
      rw [hA]
      obtain ⟨mm, hmm⟩ : ∃ mm, m - i = mm + 1 := ⟨m - i - 1, by omega⟩
      rw [hmm] at hst ⊢
      simp only [Builtin.clear_, List.getElem?_toArray, List.getElem?_cons_zero, Sem.run_bind, run_underlying ht, Result.andThen_ok, hi.zero w, hst]
      simp [over]
    have hel : ∀ k, k < xs.length → el e.sz (over cur (i * e.sz) (Builtin.zeroCells z.cells (m - i)).toList) k = el e.sz cur k := fun k hk => by
      apply List.ext_getElem?
      intro o
      rcases Nat.lt_or_ge o e.sz with ho | ho
      · rw [el_get _ _ _ _ ho, el_get _ _ _ _ ho, over_get (by rw [hzl]; exact hfit), if_pos (mul_lt_of (by omega) ho)]
      · rw [el_none _ _ _ _ (by omega), el_none _ _ _ _ (by omega)]
    have hkeep : ∀ k, S k → (w.setRow b (over cur (i * e.sz) (Builtin.zeroCells z.cells (m - i)).toList).toArray).heap[k]? = w.heap[k]? := fun k hk => setRow_other w b k _ fun e' => hs.notS (k := k) (.inl (Own.head (F := rowL e tb b c xs cur) e')) hk
    refine ⟨.tuple #[], w.setRow b (over cur (i * e.sz) (Builtin.zeroCells z.cells (m - i)).toList).toArray, _, S, .inl ?_, ⟨over cur (i * e.sz) (Builtin.zeroCells z.cells (m - i)).toList, rfl, rfl⟩, ?_⟩
    · simp [execOp, resolve, invoke, builtin, hf.eval hx, hrun]
    · refine Hold.one hs (Keeps.setRow w b _ (Own.head (F := rowL e tb b c xs cur) rfl)) _ ⟨setRow_heap w b _ _ _ _ h.1, by rw [over_length (by rw [hzl]; exact hfit)]; exact h.2.1, h.2.2.1, h.2.2.2.1, fun k hk => ?_⟩ (fun k hk => .inl (Own.head (F := rowL e tb b c xs cur) hk))
      rw [hel k hk]
      exact e.stable _ _ _ _ _ _ (h.2.2.2.2 k hk) (fun _ h => h) hkeep

/-- xs[i:], the rest as a list -/
theorem Qt.cutLowX {G : Ctx} {Γ : List Fact} {x y : Operand} {t e' : TypeId} {A : Option Addr} {c : Nat} {k : IntKind} {z : Value} {sz by_ : Nat} (xs : List α) (j : Nat) (ht : P.underlying t = some (.slice e')) (hi : TI P e' z sz by_) (hx : ev L x = some (.slice A xs.length c)) (hy : ev L y = some (.int k (j : Int))) (h1 : j ≤ xs.length) (h2 : xs.length ≤ c) :
    Qt P G n D ⟨d, .slice t x (some y) none none, ty, ps, af, gd⟩ L Γ (.slice (cutA c j A sz) (xs.drop j).length (c - j)) := by
  have := Qt.cutLow (P := P) (G := G) (n := n) (D := D) (Γ := Γ) (d := d) (ty := ty) (ps := ps) (af := af) (gd := gd) ht hi hx hy h1 h2
  rw [List.length_drop]
  exact this

/-! ### Lent slices -/
/-- What a fact says does not hang on what is settled. -/
def Free (F : Fact) : Prop := ∀ S S' w, F.ok S w → F.ok S' w
theorem free_blk (b : Nat) (t : TypeId) (cs : List Value) : Free (blk b t cs) := fun _ _ _ h => h
theorem free_mp {κ ν : Type} [DecidableEq κ] (E : KeyEnc κ) (V : ν → Value) (b : Nat) (m : List (κ × ν)) : Free (mp E V b m) := fun _ _ _ h => h
/-- Facts in one. -/
def conj (U : List Fact) : Fact where
  own k := Own U k
  ok S w := (∀ F, F ∈ U → F.ok S w) ∧ U.Pairwise Apart
  lt S w k h hk := by
    obtain ⟨F, hF, hk⟩ := hk
    exact F.lt S w k (h.1 F hF) hk
  stable S S' w w' h hs hb := ⟨fun F hF => F.stable S S' w w' (h.1 F hF) hs fun k hk => hb k (hk.elim (fun h => .inl ⟨F, hF, h⟩) .inr), h.2⟩
theorem free_conj {U : List Fact} (h : ∀ F, F ∈ U → Free F) : Free (conj U) := fun S S' w hh => ⟨fun F hF => h F hF S S' w (hh.1 F hF), hh.2⟩
theorem conj_pack {U : List Fact} : ∀ S w, Start U S w → ∃ Δ S', Δ = [conj U] ∧ Hold ⟨w, S, Own U, True⟩ Δ S' w := by
  intro S w hs
  exact ⟨_, S, rfl, Hold.one hs (Keeps.refl _ _) _ ⟨hs.facts, hs.sep⟩ (fun k hk => .inl hk)⟩
theorem conj_unpack {U : List Fact} : ∀ S w, Start [conj U] S w → ∃ Δ S', Δ = U ∧ Hold ⟨w, S, Own [conj U], True⟩ Δ S' w := by
  intro S w hs
  have h : (conj U).ok S w := hs.facts _ List.mem_cons_self
  refine ⟨_, S, rfl, Hold.list hs (Keeps.refl _ _) h.1 h.2 (fun F hF k hk => ?_) hs.sub (fun _ h => h) (fun _ h => .inl h)⟩
  have ho : Own [conj U] k := Own.head (F := conj U) ⟨F, hF, hk⟩
  exact ⟨hs.notS (.inl ho), .inl ho⟩
/-- A row is lent to one who reads it. -/
theorem Spec.borrow {μ : Prop} {f : FuncId} {args : Array Value} {Γp : List Fact} {R : Value → Prop} {A' : Option Addr} {c' : Nat} {ys : List α} {U : List Fact} (hfree : ∀ F, F ∈ Γp → Free F) (hU : ∀ F, F ∈ U → ∀ k, ¬ F.own k)
    (hd : ∀ S w, (rd e (some ⟨b, 0, none⟩) c xs).ok S w → (rd e A' c' ys).ok S w) (h : Spec μ P f args (rd e A' c' ys :: (Γp ++ U)) fun v Δ => R v ∧ Δ = Γp) : Spec μ P f args (rowL e tb b c xs cur :: (Γp ++ U)) fun v Δ => R v ∧ Δ = rowL e tb b c xs cur :: Γp := by
  intro w S hs
  have hrow : (rowL e tb b c xs cur).ok S w := hs.facts _ List.mem_cons_self
  have hapart : ∀ F, F ∈ Γp ++ U → ¬ F.own b := fun F hF hb => (List.pairwise_cons.1 hs.sep).1 F hF b rfl hb
  have hs1 : Start (rd e A' c' ys :: (Γp ++ U)) (fun k => S k ∨ k = b) w := by
    refine ⟨fun F hF => ?_, ?_, fun F hF k hk => ?_, fun k hk => ?_, fun _ h => h, fun _ h => .inl h, fun _ _ _ => rfl, Nat.le_refl _, rfl, rfl, rfl, fun _ => Nat.le_refl _⟩
    · rcases List.mem_cons.1 hF with rfl | hF
      · exact hd _ _ (rowL_rd hrow)
      · exact F.stable S _ w w (hs.facts F (List.mem_cons_of_mem _ hF)) (fun k h => .inl h) (fun _ _ => rfl)
    · exact List.pairwise_cons.2 ⟨fun F hF k h1 => h1.elim, (List.pairwise_cons.1 hs.sep).2⟩
    · rcases List.mem_cons.1 hF with rfl | hF
      · exact hk.elim
      · refine ⟨fun h1 => ?_, .inl ⟨F, List.mem_cons_of_mem _ hF, hk⟩⟩
        rcases h1 with h1 | rfl
        · exact (hs.fresh F (List.mem_cons_of_mem _ hF) k hk).1 h1
        · exact hapart F hF hk
    · rcases hk with hk | rfl
      · exact hs.sub k hk
      · exact (rowL e tb k c xs cur).lt S w k hrow rfl
  refine (h w _ hs1).mono fun e' w' ⟨v, Γ', S', he, ⟨hR, hΓ⟩, d⟩ => ⟨v, _, S, he, ⟨hR, rfl⟩, ?_⟩
  subst hΓ
  have hnot : ∀ k, (S k ∨ k = b) → ¬ Own (rd e A' c' ys :: (Γ' ++ U)) k := fun k hk ⟨F, hF, hko⟩ => (hs1.fresh F hF k hko).1 hk
  have hkept : ∀ k, (S k ∨ k = b) → w'.heap[k]? = w.heap[k]? := fun k hk => d.kept k (hs1.sub k hk) (hnot k hk)
  refine ⟨fun F hF => ?_, ?_, fun F hF k hk => ?_, fun k hk => Nat.lt_of_lt_of_le (hs.sub k hk) d.size, fun _ h => h, fun _ h => .inl h, fun k hk ho => ?_, d.size, d.os, d.tape, d.output, d.drawn⟩
  · rcases List.mem_cons.1 hF with rfl | hF
    · exact (rowL e tb b c xs cur).stable S S w w' hrow (fun _ h => h) fun k hk => hkept k (hk.elim .inr .inl)
    · exact hfree F hF _ _ _ (d.facts F hF)
  · refine List.pairwise_cons.2 ⟨fun F hF k h1 h2 => ?_, d.sep⟩
    have h1 : k = b := h1
    subst h1
    have := (d.fresh F hF k h2).1
    exact this (d.grow k (.inr rfl))
  · rcases List.mem_cons.1 hF with rfl | hF
    · have hk : k = b := hk
      subst hk
      exact ⟨(hs.fresh _ List.mem_cons_self k rfl).1, .inl (Own.head (F := rowL e tb k c xs cur) rfl)⟩
    · refine ⟨fun h1 => (d.fresh F hF k hk).1 (d.grow k (.inl h1)), ?_⟩
      rcases (d.fresh F hF k hk).2 with ⟨F', hF', hk'⟩ | h3
      · rcases List.mem_cons.1 hF' with rfl | hF'
        · exact hk'.elim
        · exact .inl ⟨F', List.mem_cons_of_mem _ hF', hk'⟩
      · exact .inr h3
  · refine d.kept k hk fun ⟨F, hF, hko⟩ => ho ?_
    rcases List.mem_cons.1 hF with rfl | hF
    · exact hko.elim
    · exact ⟨F, List.mem_cons_of_mem _ hF, hko⟩
theorem no_conj {U : List Fact} (h : ∀ F, F ∈ U → ∀ k, ¬ F.own k) : ∀ k, ¬ (conj U).own k := fun k ⟨F, hF, hk⟩ => h F hF k hk
/-- Facts handed in one. -/
theorem Spec.packed {μ : Prop} {P : Program} {f : FuncId} {args : Array Value} {U V : List Fact} {R : Value → Prop} (h : Spec μ P f args (U ++ V) fun v Δ => R v ∧ Δ = U) : Spec μ P f args (conj U :: V) fun v Δ => R v ∧ Δ = [conj U] := by
  intro w S hs
  have hc : (conj U).ok S w := hs.facts _ List.mem_cons_self
  have hsep := List.pairwise_cons.1 hs.sep
  have ho : ∀ k, Own (conj U :: V) k ↔ Own (U ++ V) k := fun k => by
    constructor
    · rintro ⟨F, hF, hk⟩
      rcases List.mem_cons.1 hF with rfl | hF
      · obtain ⟨F', hF', hk'⟩ := hk
        exact ⟨F', List.mem_append_left _ hF', hk'⟩
      · exact ⟨F, List.mem_append_right _ hF, hk⟩
    · rintro ⟨F, hF, hk⟩
      rcases List.mem_append.1 hF with hF | hF
      · exact ⟨conj U, List.mem_cons_self, F, hF, hk⟩
      · exact ⟨F, List.mem_cons_of_mem _ hF, hk⟩
  have hst : Start (U ++ V) S w := by
    refine ⟨fun F hF => ?_, ?_, fun F hF k hk => ⟨?_, .inl ⟨F, hF, hk⟩⟩, hs.sub, fun _ h => h, fun _ h => .inl h, fun _ _ _ => rfl, Nat.le_refl _, rfl, rfl, rfl, fun _ => Nat.le_refl _⟩
    · rcases List.mem_append.1 hF with hF | hF
      · exact hc.1 F hF
      · exact hs.facts F (List.mem_cons_of_mem _ hF)
    · exact List.pairwise_append.2 ⟨hc.2, hsep.2, fun X hX Y hY k h1 h2 => hsep.1 Y hY k ⟨X, hX, h1⟩ h2⟩
    · exact hs.notS (.inl ((ho k).2 ⟨F, hF, hk⟩))
  refine (h w S hst).mono fun e w' ⟨v, Δ, S', he, ⟨hR, hΔ⟩, d⟩ => ⟨v, _, S', he, ⟨hR, rfl⟩, ?_⟩
  subst hΔ
  refine ⟨fun F hF => ?_, by simp, fun F hF k hk => ?_, d.sub, d.grow, fun k hk => (d.only k hk).imp id (Or.imp (ho k).2 id), fun k hk hn => d.kept k hk fun h => hn ((ho k).2 h), d.size, d.os, d.tape, d.output, d.drawn⟩
  · obtain rfl : F = conj Δ := by simpa using hF
    exact ⟨d.facts, d.sep⟩
  · obtain rfl : F = conj Δ := by simpa using hF
    obtain ⟨F', hF', hk'⟩ := hk
    exact ⟨(d.fresh F' hF' k hk').1, (d.fresh F' hF' k hk').2.imp (ho k).2 id⟩
theorem Spec.packV {μ : Prop} {P : Program} {f : FuncId} {args : Array Value} {X V : List Fact} {R : Value → List Fact → Prop} (h : Spec μ P f args (X ++ V) R) : Spec μ P f args (X ++ [conj V]) R := by
  intro w S hs
  have hc : (conj V).ok S w := hs.facts _ (List.mem_append_right _ List.mem_cons_self)
  have hsep := List.pairwise_append.1 hs.sep
  have ho : ∀ k, Own (X ++ [conj V]) k ↔ Own (X ++ V) k := fun k => by
    constructor
    · rintro ⟨F, hF, hk⟩
      rcases List.mem_append.1 hF with hF | hF
      · exact ⟨F, List.mem_append_left _ hF, hk⟩
      · obtain rfl : F = conj V := by simpa using hF
        obtain ⟨F', hF', hk'⟩ := hk
        exact ⟨F', List.mem_append_right _ hF', hk'⟩
    · rintro ⟨F, hF, hk⟩
      rcases List.mem_append.1 hF with hF | hF
      · exact ⟨F, List.mem_append_left _ hF, hk⟩
      · exact ⟨conj V, List.mem_append_right _ List.mem_cons_self, F, hF, hk⟩
  have hst : Start (X ++ V) S w := by
    refine ⟨fun F hF => ?_, ?_, fun F hF k hk => ⟨?_, .inl ⟨F, hF, hk⟩⟩, hs.sub, fun _ h => h, fun _ h => .inl h, fun _ _ _ => rfl, Nat.le_refl _, rfl, rfl, rfl, fun _ => Nat.le_refl _⟩
    · rcases List.mem_append.1 hF with hF | hF
      · exact hs.facts F (List.mem_append_left _ hF)
      · exact hc.1 F hF
    · exact List.pairwise_append.2 ⟨hsep.1, hc.2, fun A hA B hB k h1 h2 => hsep.2.2 A hA (conj V) List.mem_cons_self k h1 ⟨B, hB, h2⟩⟩
    · exact hs.notS (.inl ((ho k).2 ⟨F, hF, hk⟩))
  refine (h w S hst).mono fun e w' ⟨v, Δ, S', he, hR, d⟩ => ⟨v, Δ, S', he, hR, ?_⟩
  exact ⟨d.facts, d.sep, fun F hF k hk => ⟨(d.fresh F hF k hk).1, (d.fresh F hF k hk).2.imp (ho k).2 id⟩, d.sub, d.grow, fun k hk => (d.only k hk).imp id (Or.imp (ho k).2 id), fun k hk hn => d.kept k hk fun h => hn ((ho k).2 h), d.size, d.os, d.tape, d.output, d.drawn⟩
/-- Settled facts that are drawn from others. -/
theorem rd_drop_ok {e : Kd α} {A : Option Addr} {c : Nat} {xs : List α} (j : Nat) : ∀ S w, (rd e A c xs).ok S w → (rd e (cutA c j A e.sz) (c - j) (xs.drop j)).ok S w := fun S w h => by
  obtain ⟨_, _, h⟩ := rd_drop j S w h
  exact (h _ List.mem_cons_self).1
/-! ### A struct of two strings -/
def PE (P : Program) (t : TypeId) : Prop := ∃ fs f g, P.underlying t = some (.struct fs) ∧ fs.toList = [f, g] ∧ f.name ≠ "_" ∧ g.name ≠ "_" ∧ f.offset = 0 ∧ g.offset = 1 ∧ P.underlying f.type = some .string ∧ P.underlying g.type = some .string ∧ P.stoodInHeld t = false ∧ P.eqGuardType P.depth t = false
theorem PE.run {P : Program} {t : TypeId} (h : PE P t) (a b c d : ByteArray) (w : World) : (Op.equal t (.agg #[.string a, .string b]) (.agg #[.string c, .string d])).run P w = .ok (decide (a = c ∧ b = d)) w := by
  obtain ⟨fs, f, g, h1, h2, h3, h4, h5, h6, h7, h8, h9, h10⟩ := h
  have hf : P.fieldsOf t = fs := by simp [Program.fieldsOf, h1]
  have hs := run_equalIn_struct (P := P) w 9999 t #[.string a, .string b] #[.string c, .string d] (by rw [hf]; exact h1) h9
  rw [hf, h2] at hs
  have hq : Op.equal t (.agg #[.string a, .string b]) (.agg #[.string c, .string d]) = Op.equalIn (9999 + 1) t (.agg #[.string a, .string b]) (.agg #[.string c, .string d]) := rfl
  rw [hq, hs]
  have hp : ∀ (ty : TypeId) (cs : Array Value) (off : Nat) (v : Value), P.underlying ty = some .string → cs[off]? = some v → (part ty cs off).run P w = .ok v w := fun ty cs off v hu hv => by
    simp [part, isAgg, run_underlying hu, hv]
  have q1 : (Op.equalIn 9999 f.type (.string a) (.string c)).run P w = .ok (decide (a = c)) w := by
    have := run_equalIn_string (P := P) w 9998 f.type a c h7
    rwa [toList_inj] at this
  have q2 : (Op.equalIn 9999 g.type (.string b) (.string d)).run P w = .ok (decide (b = d)) w := by
    have := run_equalIn_string (P := P) w 9998 g.type b d h8
    rwa [toList_inj] at this
  have p1 : (part f.type #[.string a, .string b] 0).run P w = .ok (.string a) w := hp _ _ _ _ h7 rfl
  have p2 : (part f.type #[.string c, .string d] 0).run P w = .ok (.string c) w := hp _ _ _ _ h7 rfl
  have p3 : (part g.type #[.string a, .string b] 1).run P w = .ok (.string b) w := hp _ _ _ _ h8 rfl
  have p4 : (part g.type #[.string c, .string d] 1).run P w = .ok (.string d) w := hp _ _ _ _ h8 rfl
  simp only [Op.eqFields, h3, h4, h5, h6, ne_eq, not_false_eq_true, if_true, Sem.run_bind, p1, p2, Result.andThen_ok, q1, Sem.run_ite]
  by_cases ha : a = c
  · by_cases hb : b = d <;> simp [ha, hb, p3, p4, q2, Result.andThen]
    · subst ha hb; simp [p3, q2, Result.andThen]
    · subst ha; simp [p3, p4, q2, hb, Result.andThen]
  · simp [ha]
theorem Qt.pairEq {x y : Operand} {t u : TypeId} {a b c d' : ByteArray} (h : PE P t) (hx : ev L x = some (.agg [.string a, .string b].toArray)) (hy : ev L y = some (.agg [.string c, .string d'].toArray)) : Qt P G n D ⟨d, .binOp .eql t x y u, ty, ps, af, gd⟩ L Γ (.bool (decide (a = c ∧ b = d'))) := fun act w S hf hh => by
  have hr := h.run a b c d' w
  have hp : (program : Sem Program).run P w = .ok P w := rfl
  obtain ⟨fs, f, g, h1, h2, h3, h4, h5, h6, h7, h8, h9, h10⟩ := h
  have hg : (eqGuard .eql t x y (.agg #[.string a, .string b]) (.agg #[.string c, .string d'])).run P w = .ok () w := by
    simp [eqGuard, hp, h10]
  have hb : (binOp .eql t (.agg #[.string a, .string b]) (.agg #[.string c, .string d'])).run P w = .ok (.bool (decide (a = c ∧ b = d'))) w := by
    simp [binOp, hr]
  have hx' : act.eval x = .agg #[.string a, .string b] := hf.eval hx
  have hy' : act.eval y = .agg #[.string c, .string d'] := hf.eval hy
  simp only [execOp, hx', hy', Sem.run_bind, hg, Result.andThen_ok, hb, Sem.run_pure]
theorem Qt.pairNeq {x y : Operand} {t u : TypeId} {a b c d' : ByteArray} (h : PE P t) (hx : ev L x = some (.agg [.string a, .string b].toArray)) (hy : ev L y = some (.agg [.string c, .string d'].toArray)) : Qt P G n D ⟨d, .binOp .neq t x y u, ty, ps, af, gd⟩ L Γ (.bool (decide (¬ (a = c ∧ b = d')))) := fun act w S hf hh => by
  have hr := h.run a b c d' w
  have hp : (program : Sem Program).run P w = .ok P w := rfl
  obtain ⟨fs, f, g, h1, h2, h3, h4, h5, h6, h7, h8, h9, h10⟩ := h
  have hg : (eqGuard .neq t x y (.agg #[.string a, .string b]) (.agg #[.string c, .string d'])).run P w = .ok () w := by
    simp [eqGuard, hp, h10]
  have hb : (binOp .neq t (.agg #[.string a, .string b]) (.agg #[.string c, .string d'])).run P w = .ok (.bool (decide (¬ (a = c ∧ b = d')))) w := by
    simp only [binOp, Sem.run_bind, hr, Result.andThen_ok, Sem.run_pure]
    by_cases h : a = c ∧ b = d' <;> simp [h]
  have hx' : act.eval x = .agg #[.string a, .string b] := hf.eval hx
  have hy' : act.eval y = .agg #[.string c, .string d'] := hf.eval hy
  simp only [execOp, hx', hy', Sem.run_bind, hg, Result.andThen_ok, hb, Sem.run_pure]
end
end Go.Proofs.YtolggjmgfijjfaaGreatDoor.Sep

/- The plain data of the ladder compiler, and how they lie in cells. Nothing here speaks of a program. -/
namespace Go.Proofs.YtolggjmgfijjfaaGreatDoor.Sep
open Go

inductive PT where
  | mk (kind n : Int) (kids : List PT)
def PT.kind : PT → Int | .mk k _ _ => k
def PT.n : PT → Int | .mk _ n _ => n
def PT.kids : PT → List PT | .mk _ _ l => l
theorem PT.eta (t : PT) : PT.mk t.kind t.n t.kids = t := by cases t; rfl
structure Contact where
  kind : Int
  sp : Int
  n : Int
  frm : ByteArray
  to : ByteArray
structure Coil where
  kind : Int
  sp : Int
  n : Int
structure Rung where
  label : ByteArray
  contacts : List Contact
  coils : List Coil
  jump : ByteArray
structure Edge where
  frm : ByteArray
  to : ByteArray
  t : PT

/-- What a view of an element's cells gives. -/
def View {α Z : Type} (e : Kd α) (x : α) (cells : Z → List Value) (facts : Z → List Fact) : Prop :=
  ∀ S w cs, e.K S w x cs → ∃ z, cs = cells z ∧ ∀ F, F ∈ facts z → F.ok S w ∧ ∀ k, ¬ F.own k
theorem nofacts {S : Nat → Prop} {w : World} : ∀ F : Fact, F ∈ ([] : List Fact) → F.ok S w ∧ ∀ k, ¬ F.own k := fun F h => by cases h
theorem onefact {S : Nat → Prop} {w : World} {X : Fact} (h : X.ok S w) (hn : ∀ k, ¬ X.own k) : ∀ F : Fact, F ∈ [X] → F.ok S w ∧ ∀ k, ¬ F.own k := fun F hF => by
  obtain rfl : F = X := by simpa using hF
  exact ⟨h, hn⟩
/-- A kind whose cells are reckoned from the data alone. -/
def flat {α : Type} (n : Nat) (f : α → List Value) (hl : ∀ x, (f x).length = n) (h1 : ∀ x, ones (f x) = true) : Kd α where
  sz := n
  K _ _ x cs := cs = f x
  len S w x cs h := by rw [h]; exact hl x
  one S w x cs h := by rw [h]; exact ones_all _ (h1 x)
  stable S S' w w' x cs h _ _ := h
def kInt : Kd Int := flat 1 (fun x => [.int .i64 x]) (fun _ => rfl) (fun _ => rfl)
def kStr : Kd ByteArray := flat 1 (fun x => [.string x]) (fun _ => rfl) (fun _ => rfl)
def kBool : Kd Bool := flat 1 (fun x => [.bool x]) (fun _ => rfl) (fun _ => rfl)
def kByte : Kd Int := flat 1 (fun x => [.int .u8 x]) (fun _ => rfl) (fun _ => rfl)
def kContact : Kd Contact := flat 5 (fun x => [.int .i64 x.kind, .int .i64 x.sp, .int .i64 x.n, .string x.frm, .string x.to]) (fun _ => rfl) (fun _ => rfl)
def kCoil : Kd Coil := flat 3 (fun x => [.int .i64 x.kind, .int .i64 x.sp, .int .i64 x.n]) (fun _ => rfl) (fun _ => rfl)
theorem vFlat {α : Type} {n : Nat} {f : α → List Value} {hl : ∀ x, (f x).length = n} {h1 : ∀ x, ones (f x) = true} (x : α) : View (Z := Unit) (flat n f hl h1) x (fun _ => f x) (fun _ => []) := fun S w cs h => ⟨(), h, nofacts⟩
theorem vInt (x : Int) : View (Z := Unit) kInt x (fun _ => [.int .i64 x]) (fun _ => []) := vFlat x
theorem vStr (x : ByteArray) : View (Z := Unit) kStr x (fun _ => [.string x]) (fun _ => []) := vFlat x
theorem vBool (x : Bool) : View (Z := Unit) kBool x (fun _ => [.bool x]) (fun _ => []) := vFlat x
theorem vContact (x : Contact) : View (Z := Unit) kContact x (fun _ => [.int .i64 x.kind, .int .i64 x.sp, .int .i64 x.n, .string x.frm, .string x.to]) (fun _ => []) := vFlat x
theorem vCoil (x : Coil) : View (Z := Unit) kCoil x (fun _ => [.int .i64 x.kind, .int .i64 x.sp, .int .i64 x.n]) (fun _ => []) := vFlat x

def treeK (S : Nat → Prop) (w : World) : PT → List Value → Prop
  | .mk k n kids, cs => ∃ A c, cs = [.int .i64 k, .int .i64 n, .slice A kids.length c] ∧ kids.length ≤ c ∧ c ≤ 9223372036854775807 ∧
      ∀ (j : Nat) (h : j < kids.length), ∃ p, A = some p ∧ S p.block ∧ ∃ cs', treeK S w kids[j] cs' ∧ ∀ i u, cs'[i]? = some u → w.cell? (p.add (j * 3 + i)) = some u
termination_by t => SizeOf.sizeOf t
decreasing_by
  have := List.sizeOf_lt_of_mem (List.getElem_mem h)
  simp
  omega
theorem treeK_shape {S : Nat → Prop} {w : World} : ∀ {x : PT} {cs : List Value}, treeK S w x cs → ∃ A c, cs = [.int .i64 x.kind, .int .i64 x.n, .slice A x.kids.length c]
  | .mk k n kids, cs, h => by
    rw [treeK] at h
    obtain ⟨A, c, h, _⟩ := h
    exact ⟨A, c, h⟩
theorem treeK_stable {S S' : Nat → Prop} {w w' : World} (hs : ∀ k, S k → S' k) (hb : ∀ k, S k → w'.heap[k]? = w.heap[k]?) : ∀ (x : PT) (cs : List Value), treeK S w x cs → treeK S' w' x cs
  | .mk k n kids, cs, h => by
    rw [treeK] at h ⊢
    obtain ⟨A, c, h1, h2, h3, h4⟩ := h
    refine ⟨A, c, h1, h2, h3, fun j hj => ?_⟩
    obtain ⟨p, hp, hS, cs', hK, hc⟩ := h4 j hj
    refine ⟨p, hp, hs _ hS, cs', treeK_stable hs hb _ _ hK, fun i u hu => ?_⟩
    rw [World.cell?_of_block (w := w) (by rw [add_block]; exact hb _ hS)]
    exact hc i u hu
termination_by x => SizeOf.sizeOf x
decreasing_by
  have := List.sizeOf_lt_of_mem (List.getElem_mem hj)
  simp
  omega
def kTree : Kd PT where
  sz := 3
  K := treeK
  len S w x cs h := by obtain ⟨A, c, rfl⟩ := treeK_shape h; rfl
  one S w x cs h := by obtain ⟨A, c, rfl⟩ := treeK_shape h; exact ones_all _ rfl
  stable S S' w w' x cs h hs hb := treeK_stable hs hb x cs h
theorem vTree (x : PT) : View (Z := Option Addr × Nat) kTree x (fun z => [.int .i64 x.kind, .int .i64 x.n, .slice z.1 x.kids.length z.2]) (fun z => [rd kTree z.1 z.2 x.kids]) := fun S w cs h => by
  obtain ⟨k, n, kids⟩ := x
  have h : treeK S w (.mk k n kids) cs := h
  rw [treeK] at h
  obtain ⟨A, c, h1, h2, h3, h4⟩ := h
  exact ⟨(A, c), h1, onefact ⟨h2, h3, h4⟩ fun _ h => h⟩
theorem mkTree {S : Nat → Prop} {w : World} {k n : Int} {A : Option Addr} {c : Nat} {kids : List PT} (h : (rd kTree A c kids).ok S w) : kTree.K S w (.mk k n kids) [.int .i64 k, .int .i64 n, .slice A kids.length c] := by
  show treeK S w _ _
  rw [treeK]
  exact ⟨A, c, rfl, h.1, h.2.1, h.2.2⟩
theorem mkTreeE {S : Nat → Prop} {w : World} {A : Option Addr} {c : Nat} {t : PT} (h : (rd kTree A c t.kids).ok S w) : kTree.K S w t [.int .i64 t.kind, .int .i64 t.n, .slice A t.kids.length c] := by
  obtain ⟨k, n, kids⟩ := t
  exact mkTree h
theorem mkTreeNil {S : Nat → Prop} {w : World} {k n : Int} : kTree.K S w (.mk k n []) [.int .i64 k, .int .i64 n, .slice none 0 0] := mkTree (kids := []) ⟨Nat.le_refl _, by omega, fun j h => absurd h (Nat.not_lt_zero _)⟩
/-- An edge: its endpoints, its tree. -/
def edgeK (S : Nat → Prop) (w : World) (x : Edge) (cs : List Value) : Prop := ∃ r, cs = .string x.frm :: .string x.to :: r ∧ treeK S w x.t r
def kEdge : Kd Edge where
  sz := 5
  K := edgeK
  len S w x cs h := by obtain ⟨r, rfl, h⟩ := h; obtain ⟨A, c, rfl⟩ := treeK_shape h; rfl
  one S w x cs h := by obtain ⟨r, rfl, h⟩ := h; obtain ⟨A, c, rfl⟩ := treeK_shape h; exact ones_all _ rfl
  stable S S' w w' x cs h hs hb := by obtain ⟨r, hr, h⟩ := h; exact ⟨r, hr, treeK_stable hs hb _ _ h⟩
theorem vEdge (x : Edge) : View (Z := Option Addr × Nat) kEdge x (fun z => [.string x.frm, .string x.to, .int .i64 x.t.kind, .int .i64 x.t.n, .slice z.1 x.t.kids.length z.2]) (fun z => [rd kTree z.1 z.2 x.t.kids]) := fun S w cs h => by
  obtain ⟨r, rfl, h⟩ := h
  obtain ⟨z, rfl, hz⟩ := vTree x.t S w r h
  exact ⟨z, rfl, hz⟩
theorem mkEdge {S : Nat → Prop} {w : World} {f t : ByteArray} {k n : Int} {A : Option Addr} {c : Nat} {kids : List PT} (h : (rd kTree A c kids).ok S w) : kEdge.K S w ⟨f, t, .mk k n kids⟩ [.string f, .string t, .int .i64 k, .int .i64 n, .slice A kids.length c] := ⟨_, rfl, mkTree h⟩
theorem mkEdgeE {S : Nat → Prop} {w : World} {f t : ByteArray} {A : Option Addr} {c : Nat} {x : PT} (h : (rd kTree A c x.kids).ok S w) : kEdge.K S w ⟨f, t, x⟩ [.string f, .string t, .int .i64 x.kind, .int .i64 x.n, .slice A x.kids.length c] := ⟨_, rfl, mkTreeE h⟩
theorem mkEdgeNil {S : Nat → Prop} {w : World} {f t : ByteArray} {k n : Int} : kEdge.K S w ⟨f, t, .mk k n []⟩ [.string f, .string t, .int .i64 k, .int .i64 n, .slice none 0 0] := ⟨_, rfl, mkTreeNil⟩
end Go.Proofs.YtolggjmgfijjfaaGreatDoor.Sep

/- Plain functions on trees, and small laws of lists that the walks use. Nothing here speaks of a program. -/
namespace Go.Proofs.YtolggjmgfijjfaaGreatDoor.Sep
open Go

mutual
def PT.leaves : PT → List Int
  | .mk k n kids => if k = 0 then [n] else if k = 1 ∨ k = 2 then leavesL kids else []
def leavesL : List PT → List Int
  | [] => []
  | t :: r => t.leaves ++ leavesL r
end
theorem leavesL_append : ∀ (l r : List PT), leavesL (l ++ r) = leavesL l ++ leavesL r
  | [], r => by simp [leavesL]
  | t :: l, r => by simp [leavesL, leavesL_append l r]
theorem take_succ {α : Type} (l : List α) (k : Nat) (h : k < l.length) : l.take (k + 1) = l.take k ++ [l[k]] := by
  rw [List.take_add_one, List.getElem?_eq_getElem h]
  rfl
theorem leavesL_take (l : List PT) (k : Nat) (h : k < l.length) : leavesL (l.take (k + 1)) = leavesL (l.take k) ++ l[k].leaves := by
  rw [take_succ l k h, leavesL_append]
  simp [leavesL]
theorem leavesL_len : ∀ (l : List PT) (k : Nat), (leavesL (l.take k)).length ≤ (leavesL l).length
  | [], k => by simp
  | t :: l, 0 => by simp [leavesL]
  | t :: l, k + 1 => by
    have := leavesL_len l k
    simp [leavesL]
    omega
theorem leavesL_kid (l : List PT) (k : Nat) (h : k < l.length) : (leavesL (l.take k)).length + l[k].leaves.length ≤ (leavesL l).length := by
  have h1 := leavesL_len l (k + 1)
  rw [leavesL_take l k h, List.length_append] at h1
  exact h1
theorem kid_size (t : PT) (k : Nat) (h : k < t.kids.length) : SizeOf.sizeOf t.kids[k] < SizeOf.sizeOf t := by
  obtain ⟨a, b, l⟩ := t
  have := List.sizeOf_lt_of_mem (List.getElem_mem h)
  simp only [PT.kids] at this ⊢
  simp
  omega
mutual
def PT.nodes : PT → Nat
  | .mk _ _ kids => nodesL kids + 1
def nodesL : List PT → Nat
  | [] => 0
  | t :: r => t.nodes + nodesL r
end
theorem nodes_eq (t : PT) : t.nodes = nodesL t.kids + 1 := by
  obtain ⟨a, b, l⟩ := t
  rw [PT.nodes, PT.kids]
theorem nodes_pos (t : PT) : 1 ≤ t.nodes := by rw [nodes_eq]; omega
theorem nodesL_append : ∀ (l r : List PT), nodesL (l ++ r) = nodesL l + nodesL r
  | [], r => by simp [nodesL]
  | t :: l, r => by simp [nodesL, nodesL_append l r, Nat.add_assoc]
theorem nodesL_take (l : List PT) (k : Nat) (h : k < l.length) : nodesL (l.take (k + 1)) = nodesL (l.take k) + l[k].nodes := by
  rw [take_succ l k h, nodesL_append]
  simp [nodesL]
theorem nodesL_le (l : List PT) (k : Nat) : nodesL (l.take k) ≤ nodesL l := by
  have := nodesL_append (l.take k) (l.drop k)
  rw [List.take_append_drop] at this
  omega
theorem nodesL_length : ∀ (l : List PT), l.length ≤ nodesL l
  | [] => Nat.le_refl _
  | t :: l => by
    have := nodesL_length l
    have := nodes_pos t
    simp [nodesL]
    omega
theorem nodes_kid (t : PT) (k : Nat) (h : k < t.kids.length) : t.kids[k].nodes < t.nodes := by
  have h1 := nodesL_le t.kids (k + 1)
  rw [nodesL_take _ _ h] at h1
  rw [nodes_eq t]
  omega
theorem nodes_kids (t : PT) : t.kids.length < t.nodes := by
  have := nodesL_length t.kids
  rw [nodes_eq t]
  omega
theorem leaves_leaf (t : PT) (h : t.kind = 0) : t.leaves = [t.n] := by obtain ⟨a, b, l⟩ := t; simp only [PT.kind] at h; simp [PT.leaves, PT.n, h]
theorem leaves_kids (t : PT) (h : t.kind = 1 ∨ t.kind = 2) : t.leaves = leavesL t.kids := by
  obtain ⟨a, b, l⟩ := t
  simp only [PT.kind] at h
  simp only [PT.kids]
  rw [PT.leaves, if_neg (by omega), if_pos h]
theorem leaves_none (t : PT) (h0 : t.kind ≠ 0) (h1 : t.kind ≠ 1) (h2 : t.kind ≠ 2) : t.leaves = [] := by obtain ⟨a, b, l⟩ := t; simp only [PT.kind] at h0 h1 h2; simp [PT.leaves, h0, h1, h2]
mutual
theorem leaves_le_nodes : ∀ (t : PT), t.leaves.length ≤ t.nodes
  | .mk k n kids => by
    have := leavesL_le_nodes kids
    rw [PT.leaves, PT.nodes]
    split
    · simp
    · split
      · omega
      · simp
theorem leavesL_le_nodes : ∀ (l : List PT), (leavesL l).length ≤ nodesL l
  | [] => by simp [leavesL]
  | t :: r => by
    have := leaves_le_nodes t
    have := leavesL_le_nodes r
    simp [leavesL, nodesL]
    omega
end
/-- Are two things the same? -/
noncomputable def same {α : Type} (a b : α) : Bool := @decide (a = b) (Classical.propDecidable _)
theorem same_iff {α : Type} (a b : α) : same a b = true ↔ a = b := by simp [same]
theorem same_not {α : Type} {a b : α} (h : a ≠ b) : same a b = false := by simp [same, h]
theorem same_self {α : Type} (a : α) : same a a = true := by simp [same]
theorem PT.ext {a b : PT} (h1 : a.kind = b.kind) (h2 : a.n = b.n) (h3 : a.kids = b.kids) : a = b := by
  cases a; cases b
  simp only [PT.kind, PT.n, PT.kids] at h1 h2 h3
  subst h1 h2 h3
  rfl
theorem take_all_eq {α : Type} {xs ys : List α} {k : Nat} (h : xs.take k = ys.take k) (h1 : xs.length ≤ k) (h2 : ys.length ≤ k) : xs = ys := by
  rwa [List.take_of_length_le h1, List.take_of_length_le h2] at h
theorem take_succ_eq {α : Type} {xs ys : List α} {k : Nat} (h : xs.take k = ys.take k) (h1 : k < xs.length) (h2 : k < ys.length) (he : xs[k] = ys[k]) : xs.take (k + 1) = ys.take (k + 1) := by
  rw [take_succ xs k h1, take_succ ys k h2, h, he]
theorem not_of_get {α : Type} {xs ys : List α} {k : Nat} (h1 : k < xs.length) (h2 : k < ys.length) (he : xs[k] ≠ ys[k]) : xs ≠ ys := fun h => he (by subst h; rfl)
theorem not_of_length {α : Type} {xs ys : List α} (h : xs.length ≠ ys.length) : xs ≠ ys := fun e => h (by rw [e])
/-- What 'cmp.Compare' says of whole numbers. -/
def cmpI (x y : Int) : Int := if x < y then -1 else if x > y then 1 else 0
/-- The least of some numbers. -/
def minL : List Int → Int
  | [] => 0
  | x :: r => r.foldl (fun m y => if y < m then y else m) x
theorem minL_take (l : List Int) (k : Nat) (h0 : 1 ≤ k) (h : k < l.length) : minL (l.take (k + 1)) = if l[k] < minL (l.take k) then l[k] else minL (l.take k) := by
  obtain ⟨x, r, rfl⟩ : ∃ x r, l = x :: r := by
    cases l with
    | nil => simp at h
    | cons x r => exact ⟨x, r, rfl⟩
  obtain ⟨j, rfl⟩ : ∃ j, k = j + 1 := ⟨k - 1, by omega⟩
  have hj : j < r.length := by simpa using h
  simp only [List.take_succ_cons, minL, List.getElem_cons_succ]
  rw [take_succ r j hj, List.foldl_append]
  rfl
theorem minL_one (l : List Int) (h : 0 < l.length) : minL (l.take 1) = l[0] := by
  cases l with
  | nil => simp at h
  | cons x r => simp [minL]
theorem least_step {l : List Int} {m m' : Int} {k : Nat} (hm : m = minL (l.take (max k 1))) (hk : k < l.length) (h : (l[k] < m ∧ m' = l[k]) ∨ (¬ l[k] < m ∧ m' = m)) : m' = minL (l.take (max (k + 1) 1)) := by
  rw [Nat.max_eq_left (by omega)]
  rcases Nat.eq_zero_or_pos k with h0 | h0
  · subst h0
    rw [show max 0 1 = 1 from rfl] at hm
    have := minL_one l hk
    simp only [Nat.zero_add] at *
    rcases h with ⟨h1, h2⟩ | ⟨h1, h2⟩
    · omega
    · omega
  · rw [Nat.max_eq_left h0] at hm
    rw [minL_take l k h0 hk, ← hm]
    rcases h with ⟨h1, h2⟩ | ⟨h1, h2⟩
    · rw [if_pos h1, h2]
    · rw [if_neg h1, h2]
/-- Two kids' lists in one: the kids of a tree of this kind, or the tree itself. -/
def flatK (k : Int) : List PT → List PT
  | [] => []
  | t :: r => (if t.kind = k then t.kids else [t]) ++ flatK k r
theorem flatK_append (k : Int) : ∀ (l r : List PT), flatK k (l ++ r) = flatK k l ++ flatK k r
  | [], r => by simp [flatK]
  | t :: l, r => by simp [flatK, flatK_append k l r]
theorem flatK_take (c : Int) (l : List PT) (k : Nat) (h : k < l.length) : flatK c (l.take (k + 1)) = flatK c (l.take k) ++ (if l[k].kind = c then l[k].kids else [l[k]]) := by
  rw [take_succ l k h, flatK_append]
  simp [flatK]
theorem flatK_len (c : Int) : ∀ (l : List PT), (flatK c l).length ≤ nodesL l
  | [] => Nat.le_refl _
  | t :: r => by
    have h1 := flatK_len c r
    have h2 := nodes_kids t
    simp only [flatK, List.length_append, nodesL]
    split
    · omega
    · simp; omega
theorem flatK_kid (c : Int) (l : List PT) (k : Nat) (h : k < l.length) : (flatK c (l.take k)).length + l[k].nodes ≤ nodesL l := by
  have h1 := flatK_len c (l.take k)
  have h2 := nodesL_le l (k + 1)
  rw [nodesL_take l k h] at h2
  omega
def joinT (k : Int) (a b : PT) : PT := .mk k 0 (flatK k [a, b])
def leastT (t : PT) : Int := minL t.leaves
def insT (x : PT) : List PT → List PT
  | [] => [x]
  | y :: r => if leastT y < leastT x then y :: insT x r else x :: y :: r
def sortIns (l : List PT) : List PT := l.foldl (fun out x => insT x out) []
theorem sortIns_take (l : List PT) (k : Nat) (h : k < l.length) : sortIns (l.take (k + 1)) = insT l[k] (sortIns (l.take k)) := by
  rw [take_succ l k h, sortIns, List.foldl_append]
  rfl
theorem insT_perm (x : PT) : ∀ (l : List PT), (insT x l).Perm (x :: l)
  | [] => List.Perm.refl _
  | y :: r => by
    rw [insT]
    split
    · exact ((insT_perm x r).cons y).trans (List.Perm.swap _ _ _)
    · exact List.Perm.refl _
theorem foldl_insT_perm : ∀ (l out : List PT), (l.foldl (fun out x => insT x out) out).Perm (out ++ l)
  | [], out => by simp
  | x :: l, out => by
    refine (foldl_insT_perm l (insT x out)).trans ?_
    have := ((insT_perm x out).append_right l)
    exact this.trans (List.perm_middle.symm)
theorem sortIns_perm (l : List PT) : (sortIns l).Perm l := by simpa [sortIns] using foldl_insT_perm l []
/-- Does element k stand before x? -/
def before (out : List PT) (k : Nat) (x : PT) : Bool := match out[k]? with
  | some y => decide (minL y.leaves < minL x.leaves)
  | none => false
theorem before_pos {out : List PT} {k : Nat} {x : PT} (h : k < out.length) : before out k x = decide (minL out[k].leaves < minL x.leaves) := by
  unfold before
  rw [List.getElem?_eq_getElem h]
theorem before_neg {out : List PT} {k : Nat} {x : PT} (h : ¬ k < out.length) : before out k x = false := by
  unfold before
  rw [List.getElem?_eq_none (by omega)]
theorem before_lt {out : List PT} {k : Nat} {x : PT} (h : before out k x = true) : ∃ hk : k < out.length, leastT out[k] < leastT x := by
  rcases Nat.lt_or_ge k out.length with hk | hk
  · rw [before_pos hk] at h
    exact ⟨hk, of_decide_eq_true h⟩
  · rw [before_neg (by omega)] at h
    cases h
theorem insT_at (x : PT) : ∀ (out : List PT) (k : Nat), k ≤ out.length → (∀ y, y ∈ out.take k → leastT y < leastT x) → before out k x = false → insT x out = ((([] : List PT) ++ out.take k) ++ [x]) ++ out.drop k
  | out, 0, _, _, hb => by
    cases out with
    | nil => rfl
    | cons y r =>
      have : ¬ leastT y < leastT x := fun h => by
        have := before_pos (out := y :: r) (k := 0) (x := x) (by simp)
        rw [hb] at this
        simp [leastT] at h this
        omega
      simp [insT, this]
  | [], k + 1, h, _, _ => by simp at h
  | y :: r, k + 1, h, hy, hb => by
    have h1 := hy y (by simp)
    have h2 := insT_at x r k (by simpa using h) (fun z hz => hy z (by simp [hz])) (by simpa [before] using hb)
    simp only [insT, if_pos h1, h2]
    simp
theorem sortIns_step {acc out : List PT} {q k : Nat} (hq : q < acc.length) (hout : out = sortIns (acc.take q)) (hk : k ≤ out.length) (hb : ∀ y, y ∈ out.take k → leastT y < leastT acc[q]) (hs : before out k acc[q] = false) : ((([] : List PT) ++ out.take k) ++ [acc[q]]) ++ out.drop k = sortIns (acc.take (q + 1)) := by
  rw [sortIns_take acc q hq, ← hout, insT_at _ out k hk hb hs]
theorem before_step {out : List PT} {k : Nat} {x : PT} (hb : ∀ y, y ∈ out.take k → leastT y < leastT x) (hs : before out k x = true) : ∀ y, y ∈ out.take (k + 1) → leastT y < leastT x := by
  obtain ⟨hk, h⟩ := before_lt hs
  intro y hy
  rw [take_succ out k hk] at hy
  rcases List.mem_append.1 hy with hy | hy
  · exact hb y hy
  · obtain rfl : y = out[k] := by simpa using hy
    exact h
theorem sortIns_len (l : List PT) : (sortIns l).length = l.length := (sortIns_perm l).length_eq
theorem nodesL_mem : ∀ (l : List PT) (x : PT), x ∈ l → x.nodes ≤ nodesL l
  | t :: r, x, h => by
    rcases List.mem_cons.1 h with rfl | h
    · simp [nodesL]
    · have := nodesL_mem r x h
      simp [nodesL]
      omega
theorem nodesL_perm {l r : List PT} (h : l.Perm r) : nodesL l = nodesL r := by
  induction h with
  | nil => rfl
  | cons x _ ih => simp [nodesL, ih]
  | swap x y l => simp [nodesL]; omega
  | trans _ _ h1 h2 => exact h1.trans h2
theorem nodesL_flatK (k : Int) : ∀ (l : List PT), nodesL (flatK k l) ≤ nodesL l
  | [] => Nat.le_refl _
  | t :: r => by
    have h1 := nodesL_flatK k r
    have h2 := nodes_eq t
    simp only [flatK, nodesL_append, nodesL]
    split
    · omega
    · simp [nodesL]; omega
def joinRT (k : Int) (a b : PT) : PT := if k = 1 then .mk 1 0 (flatK k [a, b]) else .mk 2 0 (sortIns (flatK k [a, b]))
theorem joinRT_ser {k : Int} (a b : PT) (h : k = 1) : joinRT k a b = .mk 1 0 (flatK k [a, b]) := if_pos h
theorem joinRT_par {k : Int} (a b : PT) (h : ¬ k = 1) : joinRT k a b = .mk 2 0 (sortIns (flatK k [a, b])) := if_neg h
/-- What the insertion sort works on has leaves, not too many. -/
theorem flat_ok {k : Int} {a b : PT} {acc : List PT} (hend : acc = flatK k [a, b]) (hnd : a.nodes + b.nodes ≤ 1000000) (hpos : ∀ x, x ∈ flatK k [a, b] → 0 < x.leaves.length) : (∀ x, x ∈ acc → 0 < x.leaves.length ∧ x.leaves.length ≤ 1000000) ∧ acc.length ≤ 1000000 := by
  subst hend
  have hn : nodesL [a, b] = a.nodes + b.nodes := by simp [nodesL]
  have h1 := nodesL_flatK k [a, b]
  refine ⟨fun x hx => ⟨hpos x hx, ?_⟩, ?_⟩
  · have h2 := nodesL_mem _ x hx
    have h3 := leaves_le_nodes x
    omega
  · have h2 := flatK_len k [a, b]
    omega
theorem sort_ok {acc out : List PT} {q : Nat} {p : PT → Prop} (hout : out = sortIns (acc.take q)) (h : (∀ x, x ∈ acc → p x) ∧ acc.length ≤ 1000000) (hq : q ≤ acc.length) : (∀ x, x ∈ out → p x) ∧ out.length = q := by
  subst hout
  refine ⟨fun x hx => h.1 x (List.mem_of_mem_take ((sortIns_perm _).mem_iff.1 hx)), ?_⟩
  rw [sortIns_len, List.length_take]
  omega
theorem take_drop_eq {α : Type} {xs : List α} {i j : Nat} (h : i = j) : xs.take i ++ xs.drop j = xs := by rw [h, List.take_append_drop]
/-! ### Edges -/
def nodesE : List Edge → Nat
  | [] => 0
  | x :: r => x.t.nodes + nodesE r
theorem nodesE_append : ∀ (l r : List Edge), nodesE (l ++ r) = nodesE l + nodesE r
  | [], r => by simp [nodesE]
  | t :: l, r => by simp [nodesE, nodesE_append l r, Nat.add_assoc]
theorem nodesE_get : ∀ (l : List Edge) (i : Nat) (h : i < l.length), l[i].t.nodes ≤ nodesE l
  | x :: r, 0, _ => by simp [nodesE]
  | x :: r, i + 1, h => by
    have := nodesE_get r i (by simpa using h)
    simp [nodesE]
    omega
def sL : ByteArray := ⟨#[76]⟩
def sR : ByteArray := ⟨#[82]⟩
/-- What one parallel reduction does. -/
def ParStep (xs ys : List Edge) (r : Bool) : Prop :=
  (r = false ∧ ys = xs ∧ ∀ (i j : Nat) (hj : j < xs.length) (hij : i < j), ¬ (xs[j].frm = xs[i].frm ∧ xs[j].to = xs[i].to)) ∨
  (r = true ∧ ∃ (i j : Nat) (hij : i < j) (hj : j < xs.length), (xs[j].frm = xs[i].frm ∧ xs[j].to = xs[i].to) ∧ ys = (xs.set i ⟨xs[i].frm, xs[i].to, joinT 2 xs[i].t xs[j].t⟩).take j ++ (xs.set i ⟨xs[i].frm, xs[i].to, joinT 2 xs[i].t xs[j].t⟩).drop (j + 1))
def comes (n : ByteArray) (xs : List Edge) : Nat := xs.countP fun y => decide (y.to = n)
def leaves (n : ByteArray) (xs : List Edge) : Nat := xs.countP fun y => decide (y.frm = n)
/-- What one series reduction does. -/
def SerStep (xs ys : List Edge) (r : Bool) : Prop :=
  (r = false ∧ ys = xs ∧ ∀ (i : Nat) (hi : i < xs.length), (xs[i].to = sL ∨ xs[i].to = sR) ∨ ¬ (comes xs[i].to xs = 1 ∧ leaves xs[i].to xs = 1)) ∨
  (r = true ∧ ∃ (i k : Nat) (hi : i < xs.length) (hk : k < xs.length), xs[i].to ≠ sL ∧ xs[i].to ≠ sR ∧ comes xs[i].to xs = 1 ∧ leaves xs[i].to xs = 1 ∧ xs[k].frm = xs[i].to ∧ ys = (xs.set i ⟨xs[i].frm, xs[k].to, joinT 1 xs[i].t xs[k].t⟩).take k ++ (xs.set i ⟨xs[i].frm, xs[k].to, joinT 1 xs[i].t xs[k].t⟩).drop (k + 1))
theorem countP_take {α : Type} (p : α → Bool) (l : List α) (k : Nat) (h : k < l.length) : (l.take (k + 1)).countP p = (l.take k).countP p + if p l[k] = true then 1 else 0 := by
  rw [take_succ l k h, List.countP_append]
  simp [List.countP_cons]
end Go.Proofs.YtolggjmgfijjfaaGreatDoor.Sep

/- Well-formed trees, and what sorting does to them. Nothing here speaks of a program. -/
namespace Go.Proofs.YtolggjmgfijjfaaGreatDoor.Sep
open Go

mutual
def PT.ok : PT → Prop
  | .mk k n kids => (k = 0 ∧ kids = []) ∨ ((k = 1 ∨ k = 2) ∧ n = 0 ∧ 2 ≤ kids.length ∧ noKind k kids ∧ okL kids)
def okL : List PT → Prop
  | [] => True
  | t :: r => t.ok ∧ okL r
def noKind (k : Int) : List PT → Prop
  | [] => True
  | t :: r => t.kind ≠ k ∧ noKind k r
end
theorem noKind_iff {k : Int} : ∀ {l : List PT}, noKind k l ↔ ∀ x, x ∈ l → x.kind ≠ k
  | [] => by simp [noKind]
  | t :: r => by simp [noKind, noKind_iff (l := r)]
theorem okL_iff : ∀ {l : List PT}, okL l ↔ ∀ x, x ∈ l → x.ok
  | [] => by simp [okL]
  | t :: r => by simp [okL, okL_iff (l := r)]
theorem ok_cases {t : PT} (h : t.ok) : (t.kind = 0 ∧ t.kids = []) ∨ ((t.kind = 1 ∨ t.kind = 2) ∧ t.n = 0 ∧ 2 ≤ t.kids.length ∧ (∀ x, x ∈ t.kids → x.kind ≠ t.kind) ∧ ∀ x, x ∈ t.kids → x.ok) := by
  obtain ⟨k, n, kids⟩ := t
  rw [PT.ok, noKind_iff, okL_iff] at h
  exact h
theorem ok_of {t : PT} (h : (t.kind = 0 ∧ t.kids = []) ∨ ((t.kind = 1 ∨ t.kind = 2) ∧ t.n = 0 ∧ 2 ≤ t.kids.length ∧ (∀ x, x ∈ t.kids → x.kind ≠ t.kind) ∧ ∀ x, x ∈ t.kids → x.ok)) : t.ok := by
  obtain ⟨k, n, kids⟩ := t
  rw [PT.ok, noKind_iff, okL_iff]
  exact h
theorem ok_kid {t : PT} (h : t.ok) (k : Nat) (hk : k < t.kids.length) : t.kids[k].ok := by
  rcases ok_cases h with h | h
  · rw [h.2] at hk; simp at hk
  · exact h.2.2.2.2 _ (List.getElem_mem hk)
mutual
theorem ok_leaves : ∀ (t : PT), t.ok → 0 < t.leaves.length
  | .mk k n kids, h => by
    rw [PT.ok] at h
    rcases h with ⟨h, rfl⟩ | ⟨h, _, h2, _, h3⟩
    · simp [PT.leaves, h]
    · rw [PT.leaves, if_neg (by omega), if_pos h]
      exact okL_leaves kids h3 (by omega)
theorem okL_leaves : ∀ (l : List PT), okL l → 0 < l.length → 0 < (leavesL l).length
  | [], _, h => by simp at h
  | t :: r, h, _ => by
    rw [okL] at h
    have := ok_leaves t h.1
    simp [leavesL]
    omega
end

def foldJ : List PT → PT
  | a :: b :: r => r.foldl (joinRT 2) (joinRT 2 a b)
  | _ => .mk 0 0 []
mutual
def sortedR : PT → PT
  | .mk k n kids => if k = 0 then .mk k n kids else if k = 1 then .mk 1 0 (sortedRL kids) else foldJ (sortedRL kids)
def sortedRL : List PT → List PT
  | [] => []
  | t :: r => sortedR t :: sortedRL r
end
theorem sortedRL_map : ∀ (l : List PT), sortedRL l = l.map sortedR
  | [] => rfl
  | t :: r => by simp [sortedRL, sortedRL_map r]
theorem sortedRL_take (l : List PT) (k : Nat) (h : k < l.length) : sortedRL (l.take (k + 1)) = sortedRL (l.take k) ++ [sortedR l[k]] := by
  simp only [sortedRL_map]
  rw [take_succ l k h, List.map_append]
  rfl
theorem sortedR_leaf (t : PT) (h : t.kind = 0) : sortedR t = t := by
  obtain ⟨k, n, kids⟩ := t
  have h : k = 0 := h
  rw [sortedR, if_pos h]
theorem sortedR_ser (t : PT) (h : t.kind = 1) : sortedR t = .mk 1 0 (sortedRL t.kids) := by
  obtain ⟨k, n, kids⟩ := t
  have h : k = 1 := h
  rw [sortedR, if_neg (by omega), if_pos h, PT.kids]
theorem sortedR_par (t : PT) (h0 : t.kind ≠ 0) (h : t.kind ≠ 1) : sortedR t = foldJ (sortedRL t.kids) := by
  obtain ⟨k, n, kids⟩ := t
  have h0 : ¬ k = 0 := h0
  have h : ¬ k = 1 := h
  rw [sortedR, if_neg h0, if_neg h, PT.kids]
theorem foldJ_take (l : List PT) (q : Nat) (h2 : 2 ≤ q) (h : q < l.length) : foldJ (l.take (q + 1)) = joinRT 2 (foldJ (l.take q)) l[q] := by
  match l, q, h2, h with
  | a :: b :: r, q + 2, _, h =>
    have hq : q < r.length := by simpa using h
    simp only [List.take_succ_cons, foldJ, List.getElem_cons_succ]
    rw [take_succ r q hq, List.foldl_append]
    rfl
  | [a], q + 2, _, h => simp at h
theorem foldJ_two (l : List PT) (h : 2 ≤ l.length) : foldJ (l.take 2) = joinRT 2 (l[0]'(by omega)) (l[1]'(by omega)) := by
  match l, h with
  | a :: b :: r, _ => rfl
theorem joinRT_perm {a b : PT} (hb : b.kind ≠ 2) (l : List PT) (ha : (a.kind = 2 ∧ a.kids.Perm l) ∨ (a.kind ≠ 2 ∧ l = [a])) : (joinRT 2 a b).kind = 2 ∧ (joinRT 2 a b).n = 0 ∧ (joinRT 2 a b).kids.Perm (l ++ [b]) := by
  rw [joinRT_par a b (by decide)]
  refine ⟨rfl, rfl, (sortIns_perm _).trans ?_⟩
  simp only [flatK, if_neg hb, List.append_nil]
  rcases ha with ⟨h1, h2⟩ | ⟨h1, rfl⟩
  · rw [if_pos h1]
    exact h2.append_right _
  · rw [if_neg h1]
theorem foldl_joinRT_perm : ∀ (r : List PT) (a : PT) (l : List PT), (∀ x, x ∈ r → x.kind ≠ 2) → a.kind = 2 → a.n = 0 → a.kids.Perm l → (r.foldl (joinRT 2) a).kind = 2 ∧ (r.foldl (joinRT 2) a).n = 0 ∧ (r.foldl (joinRT 2) a).kids.Perm (l ++ r)
  | [], a, l, _, h1, h2, h3 => ⟨h1, h2, by simpa using h3⟩
  | b :: r, a, l, h, h1, h2, h3 => by
    have hj := joinRT_perm (h b List.mem_cons_self) l (.inl ⟨h1, h3⟩)
    have := foldl_joinRT_perm r (joinRT 2 a b) (l ++ [b]) (fun x hx => h x (List.mem_cons_of_mem _ hx)) hj.1 hj.2.1 hj.2.2
    simpa using this
theorem foldJ_perm {l : List PT} (h : ∀ x, x ∈ l → x.kind ≠ 2) (h2 : 2 ≤ l.length) : (foldJ l).kind = 2 ∧ (foldJ l).n = 0 ∧ (foldJ l).kids.Perm l := by
  match l, h2 with
  | a :: b :: r, _ =>
    have hj := joinRT_perm (h b (by simp)) [a] (.inr ⟨h a (by simp), rfl⟩)
    exact foldl_joinRT_perm r (joinRT 2 a b) [a, b] (fun x hx => h x (by simp [hx])) hj.1 hj.2.1 hj.2.2
theorem leavesL_perm {l r : List PT} (h : l.Perm r) : (leavesL l).Perm (leavesL r) := by
  induction h with
  | nil => exact List.Perm.refl _
  | cons x _ ih => simpa [leavesL] using ih.append_left _
  | swap x y l => simp only [leavesL, ← List.append_assoc]; exact List.perm_append_comm.append_right _
  | trans _ _ h1 h2 => exact h1.trans h2
/-- What sorting keeps. -/
structure Sorts (t u : PT) : Prop where
  kind : u.kind = t.kind
  n : u.n = t.n
  nodes : u.nodes = t.nodes
  leaves : u.leaves.Perm t.leaves
  ok : u.ok
inductive SortsL : List PT → List PT → Prop
  | nil : SortsL [] []
  | cons {t u : PT} {l r : List PT} (h : Sorts t u) (k : SortsL l r) : SortsL (t :: l) (u :: r)
theorem SortsL.spec {l r : List PT} (h : SortsL l r) : r.length = l.length ∧ nodesL r = nodesL l ∧ (leavesL r).Perm (leavesL l) ∧ okL r ∧ ∀ k, (∀ x, x ∈ l → x.kind ≠ k) → ∀ x, x ∈ r → x.kind ≠ k := by
  induction h with
  | nil => exact ⟨rfl, rfl, List.Perm.refl _, trivial, fun k _ x hx => by cases hx⟩
  | cons h k ih =>
    obtain ⟨h1, h2, h3, h4, h5⟩ := ih
    refine ⟨by simp [h1], by simp [nodesL, h2, h.nodes], by simpa [leavesL] using h.leaves.append h3, by rw [okL]; exact ⟨h.ok, h4⟩, fun k hk x hx => ?_⟩
    rcases List.mem_cons.1 hx with rfl | hx
    · rw [h.kind]; exact hk _ List.mem_cons_self
    · exact h5 k (fun x hx => hk x (List.mem_cons_of_mem _ hx)) x hx
theorem sorts_mk {t : PT} (ht : t.ok) (h0 : t.kind ≠ 0) {ks : List PT} (hs : SortsL t.kids ks) {l : List PT} (hp : l.Perm ks) : Sorts t (.mk t.kind 0 l) := by
  rcases ok_cases ht with h | ⟨h1, h2, h3, h4, h5⟩
  · exact absurd h.1 h0
  · obtain ⟨a1, a2, a3, a4, a5⟩ := hs.spec
    have hk : t.kind = 1 ∨ t.kind = 2 := h1
    refine ⟨rfl, h2.symm, ?_, ?_, ok_of (.inr ⟨h1, rfl, ?_, fun x hx => a5 _ h4 x (hp.mem_iff.1 hx), fun x hx => okL_iff.1 a4 x (hp.mem_iff.1 hx)⟩)⟩
    · rw [nodes_eq, nodes_eq t, PT.kids, nodesL_perm hp, a2]
    · have e1 : (PT.mk t.kind 0 l).leaves = leavesL l := leaves_kids _ h1
      rw [e1, leaves_kids t h1]
      exact (leavesL_perm hp).trans a3
    · rw [PT.kids, hp.length_eq, a1]; exact h3
mutual
theorem sortedR_sorts : ∀ (t : PT), t.ok → Sorts t (sortedR t)
  | .mk k n kids, h => by
    by_cases h0 : k = 0
    · rw [sortedR_leaf (.mk k n kids) h0]
      exact ⟨rfl, rfl, rfl, List.Perm.refl _, h⟩
    · have hk : okL kids := by
        rcases ok_cases h with h' | h'
        · exact absurd h'.1 h0
        · exact okL_iff.2 h'.2.2.2.2
      have hs := sortedRL_sorts kids hk
      by_cases h1 : k = 1
      · rw [sortedR_ser (.mk k n kids) h1]
        have := sorts_mk (t := .mk k n kids) h h0 hs (List.Perm.refl _)
        simpa [PT.kind, PT.kids, h1] using this
      · rw [sortedR_par (.mk k n kids) h0 h1]
        have h2 : k = 2 := by
          rcases ok_cases h with h' | h'
          · exact absurd h'.1 h0
          · have : k = 1 ∨ k = 2 := h'.1
            omega
        have hc := ok_cases h
        have hno : ∀ x, x ∈ sortedRL kids → x.kind ≠ 2 := by
          rcases hc with h' | h'
          · exact absurd h'.1 h0
          · exact hs.spec.2.2.2.2 2 (by have := h'.2.2.2.1; simpa [PT.kind, PT.kids, h2] using this)
        have hlen : 2 ≤ (sortedRL kids).length := by
          rcases hc with h' | h'
          · exact absurd h'.1 h0
          · rw [hs.spec.1]; exact h'.2.2.1
        obtain ⟨p1, p2, p3⟩ := foldJ_perm hno hlen
        have := sorts_mk (t := .mk k n kids) h h0 hs p3
        have e : foldJ (sortedRL kids) = .mk k 0 (foldJ (sortedRL kids)).kids := by
          rw [h2]
          exact PT.ext p1 p2 rfl
        rw [PT.kids, e]
        exact this
theorem sortedRL_sorts : ∀ (l : List PT), okL l → SortsL l (sortedRL l)
  | [], _ => .nil
  | t :: r, h => by
    rw [okL] at h
    exact .cons (sortedR_sorts t h.1) (sortedRL_sorts r h.2)
end
/-- What the reference's 'Sorted' joins. -/
theorem fold_ok {t : PT} {acc : List PT} {q : Nat} (ht : t.ok) (h0 : t.kind ≠ 0) (h1 : t.kind ≠ 1) (ha : acc = sortedRL t.kids) (h2 : 2 ≤ q) (hq : q < acc.length) : (∀ x, x ∈ flatK 2 [foldJ (acc.take q), acc[q]] → 0 < x.leaves.length) ∧ (foldJ (acc.take q)).nodes + acc[q].nodes ≤ t.nodes := by
  subst ha
  rcases ok_cases ht with h' | ⟨k1, k2, k3, k4, k5⟩
  · exact absurd h'.1 h0
  have hk2 : t.kind = 2 := by omega
  obtain ⟨a1, a2, a3, a4, a5⟩ := (sortedRL_sorts t.kids (okL_iff.2 k5)).spec
  have hno : ∀ x, x ∈ sortedRL t.kids → x.kind ≠ 2 := a5 2 (by rw [hk2] at k4; exact k4)
  obtain ⟨p1, p2, p3⟩ := foldJ_perm (l := (sortedRL t.kids).take q) (fun x hx => hno x (List.mem_of_mem_take hx)) (by rw [List.length_take]; omega)
  constructor
  · intro x hx
    simp only [flatK, if_pos p1, if_neg (hno _ (List.getElem_mem hq)), List.append_nil] at hx
    apply ok_leaves
    rcases List.mem_append.1 hx with hx | hx
    · exact okL_iff.1 a4 x (List.mem_of_mem_take (p3.mem_iff.1 hx))
    · obtain rfl : x = (sortedRL t.kids)[q] := by simpa using hx
      exact okL_iff.1 a4 _ (List.getElem_mem hq)
  · rw [nodes_eq (foldJ _), nodesL_perm p3, nodes_eq t, ← a2]
    have h3 := nodesL_le (sortedRL t.kids) (q + 1)
    rw [nodesL_take _ _ hq] at h3
    omega
theorem fold_ok2 {t : PT} {acc : List PT} (ht : t.ok) (h0 : t.kind ≠ 0) (h1 : t.kind ≠ 1) (ha : acc = sortedRL t.kids) : ∃ h : 2 ≤ acc.length, (∀ x, x ∈ flatK 2 [acc[0], acc[1]] → 0 < x.leaves.length) ∧ acc[0].nodes + acc[1].nodes ≤ t.nodes := by
  subst ha
  rcases ok_cases ht with h' | ⟨k1, k2, k3, k4, k5⟩
  · exact absurd h'.1 h0
  have hk2 : t.kind = 2 := by omega
  obtain ⟨a1, a2, a3, a4, a5⟩ := (sortedRL_sorts t.kids (okL_iff.2 k5)).spec
  have hno : ∀ x, x ∈ sortedRL t.kids → x.kind ≠ 2 := a5 2 (by rw [hk2] at k4; exact k4)
  have hl : 2 ≤ (sortedRL t.kids).length := by omega
  refine ⟨hl, fun x hx => ?_, ?_⟩
  · simp only [flatK, if_neg (hno _ (List.getElem_mem (show 0 < _ by omega))), if_neg (hno _ (List.getElem_mem (show 1 < _ by omega))), List.append_nil] at hx
    apply ok_leaves
    rcases List.mem_append.1 hx with hx | hx
    · obtain rfl : x = (sortedRL t.kids)[0] := by simpa using hx
      exact okL_iff.1 a4 _ (List.getElem_mem _)
    · obtain rfl : x = (sortedRL t.kids)[1] := by simpa using hx
      exact okL_iff.1 a4 _ (List.getElem_mem _)
  · rw [nodes_eq t, ← a2]
    match h : sortedRL t.kids, hl with
    | a :: b :: r, _ => simp [nodesL]; omega
end Go.Proofs.YtolggjmgfijjfaaGreatDoor.Sep

/- Sets that maps hold, searches, what tree.Check asks. Nothing here speaks of a program. -/
namespace Go.Proofs.YtolggjmgfijjfaaGreatDoor.Sep
open Go

/-! ### Maps that are sets -/
section
variable {κ : Type} [DecidableEq κ]
def trues (ks : List κ) : List (κ × Bool) := ks.map fun k => (k, true)
theorem mlook_trues (k : κ) : ∀ (ks : List κ), (mlook (trues ks) k).getD false = decide (k ∈ ks)
  | [] => by simp [trues, mlook]
  | x :: ks => by
    have ih := mlook_trues k ks
    simp only [trues, List.map_cons, mlook]
    by_cases h : k = x
    · simp [h]
    · rw [if_neg h]
      have : (mlook (List.map (fun k => (k, true)) ks) k).getD false = decide (k ∈ ks) := ih
      rw [this]
      simp [h]
theorem mset_trues (k : κ) : ∀ (ks : List κ), mset (trues ks) k true = trues (if k ∈ ks then ks else ks ++ [k])
  | [] => by simp [trues, mset]
  | x :: ks => by
    have ih := mset_trues k ks
    simp only [trues, List.map_cons, mset]
    by_cases h : k = x
    · simp [h]
    · rw [if_neg h]
      have : mset (List.map (fun k => (k, true)) ks) k true = trues (if k ∈ ks then ks else ks ++ [k]) := ih
      rw [this]
      by_cases hk : k ∈ ks
      · simp [hk, trues]
      · simp [hk, h, trues]
theorem mset_new {k : κ} {ks : List κ} (h : k ∉ ks) : mset (trues ks) k true = trues (ks ++ [k]) := by rw [mset_trues, if_neg h]
theorem trues_length (ks : List κ) : (trues ks).length = ks.length := by simp [trues]
theorem look_yes {k : κ} {ks : List κ} (h : (mlook (trues ks) k).getD false = true) : k ∈ ks := by rw [mlook_trues] at h; exact of_decide_eq_true h
theorem look_no {k : κ} {ks : List κ} (h : ¬ (mlook (trues ks) k).getD false = true) : k ∉ ks := fun hk => h (by rw [mlook_trues]; exact decide_eq_true hk)
end

/-! ### Searches -/
section
variable {α : Type}
def idxF (p : α → Bool) (xs : List α) : Int := if xs.findIdx p < xs.length then (xs.findIdx p : Int) else -1
theorem idxF_at {p : α → Bool} {xs : List α} {k : Nat} (hk : k < xs.length) (h : p xs[k] = true) (hb : ∀ (j : Nat) (hj : j < xs.length), j < k → p xs[j] = false) : idxF p xs = k := by
  have : xs.findIdx p = k := (List.findIdx_eq hk).2 ⟨h, fun j hj => hb j (by omega) hj⟩
  rw [idxF, this, if_pos hk]
theorem idxF_none {p : α → Bool} {xs : List α} (hb : ∀ (j : Nat) (hj : j < xs.length), p xs[j] = false) : idxF p xs = -1 := by
  rw [idxF, if_neg]
  intro h
  have := List.findIdx_getElem (w := h)
  rw [hb _ h] at this
  cases this
theorem idxF_any (p : α → Bool) (xs : List α) : decide (idxF p xs ≥ 0) = xs.any p := by
  rw [Bool.eq_iff_iff, decide_eq_true_eq]
  unfold idxF
  rw [List.any_eq_true]
  constructor
  · intro h
    split at h
    · rename_i hl
      exact ⟨xs[xs.findIdx p], List.getElem_mem hl, List.findIdx_getElem (w := hl)⟩
    · omega
  · intro ⟨x, hx, hp⟩
    rw [if_pos (List.findIdx_lt_length.2 ⟨x, hx, hp⟩)]
    omega
theorem notyet {p : α → Bool} {xs : List α} {k : Nat} (hb : ∀ (j : Nat) (hj : j < xs.length), j < k → p xs[j] = false) (hk : k < xs.length) (h : p xs[k] = false) : ∀ (j : Nat) (hj : j < xs.length), j < k + 1 → p xs[j] = false := fun j hj hjk => by
  rcases Nat.lt_or_ge j k with h' | h'
  · exact hb j hj h'
  · have : j = k := by omega
    subst this
    exact h
end

section
variable {α : Type}
theorem idxF_pos {p : α → Bool} {xs : List α} (h : idxF p xs ≥ 0) : ∃ (m : Nat) (hm : m < xs.length), idxF p xs = m ∧ p xs[m] = true := by
  unfold idxF at h ⊢
  split at h
  · rename_i hl
    exact ⟨_, hl, by rw [if_pos hl], List.findIdx_getElem (w := hl)⟩
  · omega
theorem idxF_neg {p : α → Bool} {xs : List α} (h : ¬ idxF p xs ≥ 0) : ∀ x, x ∈ xs → p x = false := by
  have := idxF_any p xs
  rw [decide_eq_false h] at this
  exact fun x hx => by simpa using List.any_eq_false.1 this.symm x hx
theorem none_after {p : α → Bool} {xs : List α} {k : Nat} (h : ¬ idxF p (xs.drop (k + 1)) ≥ 0) (j : Nat) (hj : j < xs.length) (hkj : k < j) : p xs[j] = false := by
  refine idxF_neg h _ ?_
  rw [List.mem_iff_getElem]
  refine ⟨j - (k + 1), by rw [List.length_drop]; omega, ?_⟩
  rw [List.getElem_drop]
  congr 1
  omega
end
theorem par_none {xs : List Edge} {k : Nat} (hno : ∀ (i j : Nat) (hj : j < xs.length) (hij : i < j), i < k → ¬ (xs[j].frm = xs[i].frm ∧ xs[j].to = xs[i].to)) {hk : k < xs.length} (h : ∀ (j : Nat) (hj : j < xs.length), k < j → decide (xs[j].frm = xs[k].frm ∧ xs[j].to = xs[k].to) = false) :
    ∀ (i j : Nat) (hj : j < xs.length) (hij : i < j), i < k + 1 → ¬ (xs[j].frm = xs[i].frm ∧ xs[j].to = xs[i].to) := fun i j hj hij hik hp => by
  rcases Nat.lt_or_ge i k with h1 | h1
  · exact hno i j hj hij h1 hp
  · obtain rfl : i = k := by omega
    have := h j hj hij
    simp [hp] at this
theorem comes_step {n : ByteArray} {xs : List Edge} {q a a' : Nat} (h : a = comes n (xs.take q)) (hq : q < xs.length) (hs : (xs[q].to = n ∧ a' = a + 1) ∨ (¬ xs[q].to = n ∧ a' = a)) : a' = comes n (xs.take (q + 1)) := by
  unfold comes at *
  rw [countP_take _ _ _ hq, ← h]
  rcases hs with ⟨h1, h2⟩ | ⟨h1, h2⟩ <;> simp [h1, h2]
theorem leaves_step {n : ByteArray} {xs : List Edge} {q a a' : Nat} (h : a = leaves n (xs.take q)) (hq : q < xs.length) (hs : (xs[q].frm = n ∧ a' = a + 1) ∨ (¬ xs[q].frm = n ∧ a' = a)) : a' = leaves n (xs.take (q + 1)) := by
  unfold leaves at *
  rw [countP_take _ _ _ hq, ← h]
  rcases hs with ⟨h1, h2⟩ | ⟨h1, h2⟩ <;> simp [h1, h2]
theorem ser_eq {n : ByteArray} {xs : List Edge} {q a b : Nat} (h1 : a = comes n (xs.take q)) (h2 : b = leaves n (xs.take q)) (hq : xs.length ≤ q) (h : comes n xs = 1 ∧ leaves n xs = 1) : (a : Int) = 1 ∧ (b : Int) = 1 := by
  rw [List.take_of_length_le hq] at h1 h2
  omega
theorem ser_eq2 {n : ByteArray} {xs : List Edge} {q a b : Nat} (h1 : a = comes n (xs.take q)) (h2 : b = leaves n (xs.take q)) (hq : xs.length ≤ q) (h : (a : Int) = 1 ∧ (b : Int) = 1) : comes n xs = 1 ∧ leaves n xs = 1 := by
  rw [List.take_of_length_le hq] at h1 h2
  omega
theorem ser_none {xs : List Edge} {k : Nat} (hno : ∀ (i : Nat) (hi : i < xs.length), i < k → (xs[i].to = sL ∨ xs[i].to = sR) ∨ ¬ (comes xs[i].to xs = 1 ∧ leaves xs[i].to xs = 1)) (hk : k < xs.length) (h : (xs[k].to = sL ∨ xs[k].to = sR) ∨ ¬ (comes xs[k].to xs = 1 ∧ leaves xs[k].to xs = 1)) :
    ∀ (i : Nat) (hi : i < xs.length), i < k + 1 → (xs[i].to = sL ∨ xs[i].to = sR) ∨ ¬ (comes xs[i].to xs = 1 ∧ leaves xs[i].to xs = 1) := fun i hi hik => by
  rcases Nat.lt_or_ge i k with h1 | h1
  · exact hno i hi h1
  · obtain rfl : i = k := by omega
    exact h
/-! ### tree.Check -/
def VL (m : Int) (ks l : List Int) : Prop := (∀ x, x ∈ l → 0 ≤ x ∧ x < m) ∧ l.Nodup ∧ ∀ x, x ∈ l → x ∉ ks
theorem VL_append {m : Int} {ks a b : List Int} : VL m ks (a ++ b) ↔ VL m ks a ∧ VL m (ks ++ a) b := by
  simp only [VL, List.mem_append, List.nodup_append]
  constructor
  · rintro ⟨h1, ⟨h2, h3, h4⟩, h5⟩
    exact ⟨⟨fun x hx => h1 x (.inl hx), h2, fun x hx => h5 x (.inl hx)⟩, fun x hx => h1 x (.inr hx), h3, fun x hx => by
      rintro (h | h)
      · exact h5 x (.inr hx) h
      · exact h4 x h x hx rfl⟩
  · rintro ⟨⟨h1, h2, h3⟩, h4, h5, h6⟩
    refine ⟨fun x hx => hx.elim (h1 x) (h4 x), ⟨h2, h5, fun x hx y hy e => ?_⟩, fun x hx hk => ?_⟩
    · subst e
      exact h6 x hy (.inr hx)
    · rcases hx with hx | hx
      · exact h3 x hx hk
      · exact h6 x hx (.inl hk)
def Vld (m : Int) (ks : List Int) (t : PT) : Prop := t.ok ∧ VL m ks t.leaves
theorem Vld.shape {m : Int} {ks : List Int} {t : PT} (h : Vld m ks t) : 0 ≤ t.kind ∧ t.kind ≤ 2 ∧ (t.kind = 0 → t.kids.length = 0 ∧ 0 ≤ t.n ∧ t.n < m) ∧ (t.kind ≠ 0 → t.n = 0 ∧ 2 ≤ t.kids.length) := by
  rcases ok_cases h.1 with h1 | h1
  · have hl := leaves_leaf t h1.1
    have := h.2.1 t.n (by rw [hl]; simp)
    refine ⟨by omega, by omega, fun _ => ⟨by rw [h1.2]; rfl, this⟩, fun h2 => absurd h1.1 h2⟩
  · refine ⟨by omega, by omega, fun h2 => by omega, fun _ => ⟨h1.2.1, h1.2.2.1⟩⟩
theorem Vld.fresh {m : Int} {ks : List Int} {t : PT} (h : Vld m ks t) (h0 : t.kind = 0) : t.n ∉ ks := by
  have hl := leaves_leaf t h0
  exact h.2.2.2 t.n (by rw [hl]; simp)
theorem Vld.leaf {m : Int} {ks : List Int} {t : PT} (h0 : t.kind = 0) (hk : t.kids.length = 0) (h1 : 0 ≤ t.n) (h2 : t.n < m) (h3 : t.n ∉ ks) : Vld m ks t := by
  have hl := leaves_leaf t h0
  refine ⟨ok_of (.inl ⟨h0, List.eq_nil_of_length_eq_zero hk⟩), ?_⟩
  rw [hl]
  exact ⟨by simpa using ⟨h1, h2⟩, by simp, by simpa using h3⟩
theorem Vld.nokind {m : Int} {ks : List Int} {t : PT} (h : Vld m ks t) (h0 : t.kind ≠ 0) : (t.kids.any fun x => decide (x.kind = t.kind)) = false := by
  rcases ok_cases h.1 with h1 | h1
  · exact absurd h1.1 h0
  · rw [List.any_eq_false]
    intro x hx
    simpa using h1.2.2.2.1 x hx
theorem Vld.kid {m : Int} {ks : List Int} {t : PT} (h : Vld m ks t) (h0 : t.kind ≠ 0) {k : Nat} (hk : k < t.kids.length) : Vld m (ks ++ leavesL (t.kids.take k)) t.kids[k] := by
  rcases ok_cases h.1 with h1 | h1
  · exact absurd h1.1 h0
  · have hl := leaves_kids t h1.1
    refine ⟨h1.2.2.2.2 _ (List.getElem_mem hk), ?_⟩
    have h2 := h.2
    rw [hl, show t.kids = t.kids.take (k + 1) ++ t.kids.drop (k + 1) from (List.take_append_drop _ _).symm, leavesL_append] at h2
    have h3 := (VL_append.1 h2).1
    rw [leavesL_take _ _ hk] at h3
    exact (VL_append.1 h3).2
theorem Vld.of {m : Int} {ks : List Int} {t : PT} (h1 : t.kind = 1 ∨ t.kind = 2) (hn : t.n = 0) (h2 : 2 ≤ t.kids.length) (h3 : (t.kids.any fun x => decide (x.kind = t.kind)) = false) (h4 : okL t.kids) (h5 : VL m ks (leavesL t.kids)) : Vld m ks t := by
  refine ⟨ok_of (.inr ⟨h1, hn, h2, fun x hx => ?_, okL_iff.1 h4⟩), by rw [leaves_kids t h1]; exact h5⟩
  have := List.any_eq_false.1 h3 x hx
  simpa using this
theorem okL_take {l : List PT} {k : Nat} (hk : k < l.length) (h : okL (l.take k)) (h1 : l[k].ok) : okL (l.take (k + 1)) := by
  rw [okL_iff] at h ⊢
  intro x hx
  rw [take_succ l k hk] at hx
  rcases List.mem_append.1 hx with hx | hx
  · exact h x hx
  · obtain rfl : x = l[k] := by simpa using hx
    exact h1
theorem check_iff {e many : Int} {V : Prop} {ks l : List Int} (he : e = 0 → V ∧ ks = [] ++ l) (hv : V → e = 0) (hc : ¬ (e = 0 ∧ (ks.length : Int) ≠ if many > 0 then many else 0)) : e = 0 ↔ V ∧ (l.length : Int) = max 0 many := by
  constructor
  · intro h
    obtain ⟨h1, h2⟩ := he h
    refine ⟨h1, ?_⟩
    have e0 : ks.length = l.length := by rw [h2]; rfl
    omega
  · exact fun h => hv h.1
theorem check_iff4 {e many : Int} {V : Prop} {ks l : List Int} (he : e = 0 → V ∧ ks = [] ++ l) (hc : e = 0 ∧ (ks.length : Int) ≠ if many > 0 then many else 0) : (4 : Int) = 0 ↔ V ∧ (l.length : Int) = max 0 many := by
  constructor
  · intro h; omega
  · intro h
    obtain ⟨h1, h2⟩ := he hc.1
    have e0 : ks.length = l.length := by rw [h2]; rfl
    omega
end Go.Proofs.YtolggjmgfijjfaaGreatDoor.Sep

/- Graphs of contacts: nodes, neighbours. Nothing here speaks of a program. -/
namespace Go.Proofs.YtolggjmgfijjfaaGreatDoor.Sep
open Go

/-- Is it so? -/
noncomputable def yes (p : Prop) : Bool := @decide p (Classical.propDecidable p)
theorem yes_iff (p : Prop) : yes p = true ↔ p := by simp [yes]
theorem yes_no {p : Prop} (h : ¬ p) : yes p = false := by simp [yes, h]
theorem yes_of {p : Prop} (h : p) : yes p = true := by simp [yes, h]
/-- Membership among strings, by equality of strings. -/
instance decMemStr (x : ByteArray) (l : List ByteArray) : Decidable (x ∈ l) := @List.instDecidableMemOfLawfulBEq ByteArray instBEqOfDecidableEq inferInstance x l
def addN (l : List ByteArray) (n : ByteArray) : List ByteArray := if n ∈ l then l else l ++ [n]
def nodesF (cs : List Contact) : List ByteArray := cs.foldl (fun l c => addN (addN l c.frm) c.to) [sL, sR]
theorem addN_mem {l : List ByteArray} {n x : ByteArray} : x ∈ addN l n ↔ x ∈ l ∨ x = n := by
  unfold addN
  split
  · rename_i h
    exact ⟨.inl, fun h' => h'.elim id fun e => by rw [e]; exact h⟩
  · simp
theorem addN_len (l : List ByteArray) (n : ByteArray) : (addN l n).length ≤ l.length + 1 := by
  unfold addN
  split
  · omega
  · simp
theorem addN_nodup {l : List ByteArray} (n : ByteArray) (h : l.Nodup) : (addN l n).Nodup := by
  unfold addN
  split
  · exact h
  · rename_i hn
    rw [List.nodup_append]
    exact ⟨h, by simp, fun a ha b hb e => hn (by simp at hb; rw [← hb, ← e]; exact ha)⟩
theorem nodesF_take (cs : List Contact) (k : Nat) (h : k < cs.length) : nodesF (cs.take (k + 1)) = addN (addN (nodesF (cs.take k)) cs[k].frm) cs[k].to := by
  rw [take_succ cs k h, nodesF, List.foldl_append]
  rfl
theorem nodesF_len : ∀ (cs : List Contact) (k : Nat), k ≤ cs.length → (nodesF (cs.take k)).length ≤ 2 + 2 * k
  | cs, 0, _ => by simp [nodesF]
  | cs, k + 1, h => by
    have ih := nodesF_len cs k (by omega)
    have h1 := addN_len (nodesF (cs.take k)) cs[k].frm
    have h2 := addN_len (addN (nodesF (cs.take k)) cs[k].frm) cs[k].to
    rw [nodesF_take cs k (by omega)]
    omega
theorem foldl_addN_mem {x : ByteArray} : ∀ (cs : List Contact) (l : List ByteArray), x ∈ cs.foldl (fun l c => addN (addN l c.frm) c.to) l ↔ x ∈ l ∨ ∃ c, c ∈ cs ∧ (x = c.frm ∨ x = c.to)
  | [], l => by simp
  | c :: cs, l => by
    rw [List.foldl_cons, foldl_addN_mem cs, addN_mem, addN_mem]
    constructor
    · rintro (((h | h) | h) | ⟨c', h1, h2⟩)
      · exact .inl h
      · exact .inr ⟨c, List.mem_cons_self, .inl h⟩
      · exact .inr ⟨c, List.mem_cons_self, .inr h⟩
      · exact .inr ⟨c', List.mem_cons_of_mem _ h1, h2⟩
    · rintro (h | ⟨c', h1, h2⟩)
      · exact .inl (.inl (.inl h))
      · rcases List.mem_cons.1 h1 with rfl | h1
        · rcases h2 with h2 | h2
          · exact .inl (.inl (.inr h2))
          · exact .inl (.inr h2)
        · exact .inr ⟨c', h1, h2⟩
theorem nodesF_mem {cs : List Contact} {x : ByteArray} : x ∈ nodesF cs ↔ x = sL ∨ x = sR ∨ ∃ c, c ∈ cs ∧ (x = c.frm ∨ x = c.to) := by
  rw [nodesF, foldl_addN_mem]
  simp [or_assoc]
theorem foldl_addN_nodup : ∀ (cs : List Contact) (l : List ByteArray), l.Nodup → (cs.foldl (fun l c => addN (addN l c.frm) c.to) l).Nodup
  | [], l, h => h
  | c :: cs, l, h => foldl_addN_nodup cs _ (addN_nodup _ (addN_nodup _ h))
theorem sL_ne_sR : sL ≠ sR := by decide
theorem nodesF_nodup (cs : List Contact) : (nodesF cs).Nodup := foldl_addN_nodup cs _ (by simp [sL_ne_sR])
theorem two_nodes : mset (mset ([] : List (ByteArray × Bool)) (⟨#[76]⟩ : ByteArray) true) (⟨#[82]⟩ : ByteArray) true = trues [sL, sR] := by
  have h : ¬ (⟨#[82]⟩ : ByteArray) = ⟨#[76]⟩ := by decide
  simp [mset, h, trues, sL, sR]
/-- One of a contact's two ends. -/
theorem addN_step {l l2 l3 : List ByteArray} {a b : ByteArray} {q : Nat} (h : l2 = ([a, b].take q).foldl addN l) (hq : q < [a, b].length) (hs : (([a, b][q] ∉ l2) ∧ l3 = l2 ++ [[a, b][q]]) ∨ ([a, b][q] ∈ l2 ∧ l3 = l2)) : l3 = ([a, b].take (q + 1)).foldl addN l := by
  rw [take_succ [a, b] q hq, List.foldl_append, ← h]
  rcases hs with ⟨h1, h2⟩ | ⟨h1, h2⟩ <;> simp [addN, h1, h2]
theorem addN_two_len {l l2 : List ByteArray} {a b : ByteArray} {q : Nat} (h : l2 = ([a, b].take q).foldl addN l) (hq : q ≤ 2) : l2.length ≤ l.length + q := by
  subst h
  match q, hq with
  | 0, _ => simp
  | 1, _ => simpa using addN_len l a
  | 2, _ =>
    have h1 := addN_len l a
    have h2 := addN_len (addN l a) b
    simp
    omega

theorem any_eq_yes (x : ByteArray) (xs : List ByteArray) : (xs.any fun y => decide (x = y)) = yes (x ∈ xs) := by
  rw [Bool.eq_iff_iff, yes_iff, List.any_eq_true]
  simp
/-! ### Numbers of contacts -/
def numN (p : Contact → Bool) (cs : List Contact) (k : Nat) : List Nat := (List.range k).filter fun j => (cs[j]?).any p
def numI (p : Contact → Bool) (cs : List Contact) (k : Nat) : List Int := (numN p cs k).map fun j : Nat => (j : Int)
theorem numI_step (p : Contact → Bool) (cs : List Contact) (k : Nat) (h : k < cs.length) : numI p cs (k + 1) = numI p cs k ++ if p cs[k] = true then [(k : Int)] else [] := by
  unfold numI numN
  rw [List.range_succ, List.filter_append, List.map_append]
  congr 1
  by_cases hp : p cs[k] = true <;> simp [List.getElem?_eq_getElem h, hp]
theorem numI_len (p : Contact → Bool) (cs : List Contact) (k : Nat) : (numI p cs k).length ≤ k := by
  unfold numI numN
  rw [List.length_map]
  have := List.length_filter_le (fun j => (cs[j]?).any p) (List.range k)
  simpa using this
theorem numN_mem {p : Contact → Bool} {cs : List Contact} {j : Nat} : j ∈ numN p cs cs.length ↔ ∃ h : j < cs.length, p cs[j] = true := by
  unfold numN
  rw [List.mem_filter, List.mem_range]
  constructor
  · rintro ⟨h1, h2⟩
    exact ⟨h1, by simpa [List.getElem?_eq_getElem h1] using h2⟩
  · rintro ⟨h1, h2⟩
    exact ⟨h1, by simpa [List.getElem?_eq_getElem h1] using h2⟩
theorem numI_get {p : Contact → Bool} {cs : List Contact} {k : Nat} (hk : k < (numI p cs cs.length).length) : ∃ (j : Nat) (h : j < cs.length), (numI p cs cs.length)[k] = (j : Int) ∧ p cs[j] = true := by
  have hk' : k < (numN p cs cs.length).length := by simpa [numI] using hk
  obtain ⟨h, hp⟩ := numN_mem.1 (List.getElem_mem hk')
  exact ⟨(numN p cs cs.length)[k], h, by simp [numI], hp⟩
theorem numI_mem {p : Contact → Bool} {cs : List Contact} {x : Int} : x ∈ numI p cs cs.length ↔ ∃ (j : Nat) (h : j < cs.length), x = (j : Int) ∧ p cs[j] = true := by
  unfold numI
  rw [List.mem_map]
  constructor
  · rintro ⟨j, hj, rfl⟩
    obtain ⟨h, hp⟩ := numN_mem.1 hj
    exact ⟨j, h, rfl, hp⟩
  · rintro ⟨j, h, rfl, hp⟩
    exact ⟨j, numN_mem.2 ⟨h, hp⟩, rfl⟩
theorem nodesF_pos (cs : List Contact) : 0 < (nodesF cs).length := List.length_pos_of_mem (nodesF_mem.2 (.inl rfl))

/-! ### DeleteFunc -/
def DelInv (p : ByteArray → Bool) (xs ys : List ByteArray) (i j : Nat) : Prop := ys.length = xs.length ∧ i < j ∧ j ≤ xs.length ∧ ys.take i = (xs.take j).filter (fun x => !p x) ∧ ys.drop j = xs.drop j
theorem DelInv.init {p : ByteArray → Bool} {xs : List ByteArray} {i : Nat} (hi : i < xs.length) (hp : p xs[i] = true) (hb : ∀ (j : Nat) (hj : j < xs.length), j < i → p xs[j] = false) : DelInv p xs xs i (i + 1) := by
  refine ⟨rfl, by omega, by omega, ?_, rfl⟩
  rw [take_succ xs i hi, List.filter_append]
  have h1 : (xs.take i).filter (fun x => !p x) = xs.take i := by
    rw [List.filter_eq_self]
    intro a ha
    obtain ⟨j, hj, rfl⟩ := List.mem_iff_getElem.1 ha
    rw [List.length_take] at hj
    rw [List.getElem_take]
    simp [hb j (by omega) (by omega)]
  simp [h1, hp]
theorem DelInv.same {p : ByteArray → Bool} {xs ys : List ByteArray} {i j : Nat} (h : DelInv p xs ys i j) (hj : j < xs.length) : ∃ hy : j < ys.length, ys[j] = xs[j] := by
  have hy : j < ys.length := by rw [h.1]; exact hj
  refine ⟨hy, ?_⟩
  have := congrArg (·[0]?) h.2.2.2.2
  simpa [List.getElem?_drop, hy, hj] using this
theorem DelInv.keep {p : ByteArray → Bool} {xs ys : List ByteArray} {i j : Nat} (h : DelInv p xs ys i j) (hy : j < ys.length) (hp : p ys[j] = false) : DelInv p xs (ys.set i ys[j]) (i + 1) (j + 1) := by
  have hj : j < xs.length := by rw [← h.1]; exact hy
  obtain ⟨_, he⟩ := h.same hj
  obtain ⟨h1, h2, h3, h4, h5⟩ := h
  refine ⟨by simpa using h1, by omega, by omega, ?_, ?_⟩
  · rw [take_succ xs j hj, List.filter_append, ← h4]
    have hi : i < ys.length := by omega
    rw [take_succ _ i (by simpa using hi)]
    have hl : (ys.take i).length ≤ i := by rw [List.length_take]; omega
    simp [he ▸ hp, he, List.take_set]
    exact List.set_eq_of_length_le hl
  · rw [List.drop_set_of_lt (by omega)]
    have := congrArg (List.drop 1) h5
    simpa [List.drop_drop] using this
theorem DelInv.drop {p : ByteArray → Bool} {xs ys : List ByteArray} {i j : Nat} (h : DelInv p xs ys i j) (hy : j < ys.length) (hp : p ys[j] = true) : DelInv p xs ys i (j + 1) := by
  have hj : j < xs.length := by rw [← h.1]; exact hy
  obtain ⟨_, he⟩ := h.same hj
  obtain ⟨h1, h2, h3, h4, h5⟩ := h
  refine ⟨h1, by omega, by omega, ?_, ?_⟩
  · rw [take_succ xs j hj, List.filter_append, ← h4]
    simp [he ▸ hp]
  · have := congrArg (List.drop 1) h5
    simpa [List.drop_drop] using this
theorem DelInv.fin {p : ByteArray → Bool} {xs ys : List ByteArray} {i j : Nat} (h : DelInv p xs ys i j) (hj : xs.length ≤ j) : ys.take i = xs.filter (fun x => !p x) ∧ i = (xs.filter fun x => !p x).length := by
  obtain ⟨h1, h2, h3, h4, h5⟩ := h
  rw [List.take_of_length_le hj] at h4
  refine ⟨h4, ?_⟩
  rw [← h4, List.length_take]
  omega
theorem del_none {p : ByteArray → Bool} {xs : List ByteArray} (h : ¬ idxF p xs ≥ 0) : xs.filter (fun x => !p x) = xs := by
  rw [List.filter_eq_self]
  intro a ha
  simp [idxF_neg h a ha]
theorem idxF_first {p : ByteArray → Bool} {xs : List ByteArray} (h : idxF p xs ≥ 0) : ∃ (i : Nat) (hi : i < xs.length), idxF p xs = i ∧ p xs[i] = true ∧ ∀ (j : Nat) (hj : j < xs.length), j < i → p xs[j] = false := by
  unfold idxF at h ⊢
  split at h
  · rename_i hl
    exact ⟨_, hl, by rw [if_pos hl], List.findIdx_getElem (w := hl), fun j hj hji => by simpa using List.not_of_lt_findIdx hji⟩
  · omega
theorem idxF_ge {α : Type} (p : α → Bool) (xs : List α) : -1 ≤ idxF p xs := by
  unfold idxF
  split <;> omega

theorem look_is_yes (n : ByteArray) (ks : List ByteArray) : (mlook (trues ks) n).getD false = yes (n ∈ ks) := by
  rw [mlook_trues, Bool.eq_iff_iff, yes_iff]
  simp
/-! ### Neighbours -/
def nbrs (f : Contact → ByteArray) (cs : List Contact) (is : List Int) : List ByteArray := is.filterMap fun i => (cs[i.toNat]?).map f
theorem nbrs_step (f : Contact → ByteArray) (cs : List Contact) (is : List Int) (k j : Nat) (hk : k < is.length) (hj : j < cs.length) (he : is[k] = (j : Int)) : nbrs f cs (is.take (k + 1)) = nbrs f cs (is.take k) ++ [f cs[j]] := by
  unfold nbrs
  rw [take_succ is k hk, List.filterMap_append]
  simp [he, List.getElem?_eq_getElem hj]
theorem nbrs_len (f : Contact → ByteArray) (cs : List Contact) (is : List Int) : (nbrs f cs is).length ≤ is.length := List.length_filterMap_le _ _
theorem nbrs_mem {f : Contact → ByteArray} {p : Contact → Bool} {cs : List Contact} {m : ByteArray} : m ∈ nbrs f cs (numI p cs cs.length) ↔ ∃ c, c ∈ cs ∧ p c = true ∧ m = f c := by
  unfold nbrs
  rw [List.mem_filterMap]
  constructor
  · rintro ⟨i, hi, h⟩
    obtain ⟨j, hj, rfl, hp⟩ := numI_mem.1 hi
    simp [List.getElem?_eq_getElem hj] at h
    exact ⟨cs[j], List.getElem_mem hj, hp, h.symm⟩
  · rintro ⟨c, hc, hp, rfl⟩
    obtain ⟨j, hj, rfl⟩ := List.mem_iff_getElem.1 hc
    exact ⟨j, numI_mem.2 ⟨j, hj, rfl, hp⟩, by simp [List.getElem?_eq_getElem hj]⟩
/-! ### Searches in depth -/
inductive RT (E : ByteArray → ByteArray → Prop) (a : ByteArray) : ByteArray → Prop
  | refl : RT E a a
  | step {b c : ByteArray} (h : RT E a b) (e : E b c) : RT E a c
theorem RT.head {E : ByteArray → ByteArray → Prop} {a b c : ByteArray} (e : E a b) (h : RT E b c) : RT E a c := by
  induction h with
  | refl => exact .step .refl e
  | step _ e' ih => exact .step ih e'
def Visit (E : ByteArray → ByteArray → Prop) (ks : List ByteArray) (n : ByteArray) (ks1 : List ByteArray) : Prop :=
  (∀ x, x ∈ ks → x ∈ ks1) ∧ n ∈ ks1 ∧ ∀ x, x ∈ ks1 → x ∉ ks → RT E n x ∧ ∀ y, E x y → y ∈ ks1
theorem Visit.seen {E : ByteArray → ByteArray → Prop} {ks : List ByteArray} {n : ByteArray} (h : n ∈ ks) : Visit E ks n ks := ⟨fun _ h => h, h, fun x hx hn => absurd hx hn⟩
def VInv (E : ByteArray → ByteArray → Prop) (ks : List ByteArray) (n : ByteArray) (l : List ByteArray) (k : Nat) (ks2 : List ByteArray) : Prop :=
  (∀ x, x ∈ ks → x ∈ ks2) ∧ n ∈ ks2 ∧ (∀ (j : Nat) (hj : j < l.length), j < k → l[j] ∈ ks2) ∧ ∀ x, x ∈ ks2 → x ∉ ks → x ≠ n → RT E n x ∧ ∀ y, E x y → y ∈ ks2
theorem VInv.init {E : ByteArray → ByteArray → Prop} {ks l : List ByteArray} {n : ByteArray} : VInv E ks n l 0 (ks ++ [n]) :=
  ⟨fun x h => List.mem_append_left _ h, by simp, fun j _ h => absurd h (Nat.not_lt_zero _), fun x hx hn hne => by
    rcases List.mem_append.1 hx with hx | hx
    · exact absurd hx hn
    · exact absurd (by simpa using hx) hne⟩
theorem VInv.step {E : ByteArray → ByteArray → Prop} {ks l ks2 ks3 : List ByteArray} {n : ByteArray} {k : Nat} (h : VInv E ks n l k ks2) (hk : k < l.length) (he : E n l[k]) (hv : Visit E ks2 l[k] ks3) : VInv E ks n l (k + 1) ks3 := by
  obtain ⟨h1, h2, h3, h4⟩ := h
  obtain ⟨v1, v2, v3⟩ := hv
  refine ⟨fun x hx => v1 x (h1 x hx), v1 n h2, fun j hj hjk => ?_, fun x hx hn hne => ?_⟩
  · rcases Nat.lt_or_ge j k with h | h
    · exact v1 _ (h3 j hj h)
    · have : j = k := by omega
      subst this
      exact v2
  · by_cases hx2 : x ∈ ks2
    · obtain ⟨a, b⟩ := h4 x hx2 hn hne
      exact ⟨a, fun y hy => v1 y (b y hy)⟩
    · obtain ⟨a, b⟩ := v3 x hx hx2
      exact ⟨a.head he, b⟩
theorem VInv.fin {E : ByteArray → ByteArray → Prop} {ks l ks2 : List ByteArray} {n : ByteArray} {k : Nat} (h : VInv E ks n l k ks2) (hk : l.length ≤ k) (hl : ∀ y, E n y → y ∈ l) : Visit E ks n ks2 := by
  obtain ⟨h1, h2, h3, h4⟩ := h
  refine ⟨h1, h2, fun x hx hn => ?_⟩
  by_cases hne : x = n
  · subst hne
    refine ⟨.refl, fun y hy => ?_⟩
    obtain ⟨j, hj, rfl⟩ := List.mem_iff_getElem.1 (hl y hy)
    exact h3 j hj (by omega)
  · exact h4 x hx hn hne
/-- How many of U have not been seen. -/
def unseen (U ks : List ByteArray) : Nat := (U.filter fun x => !(decide (x ∈ ks))).length
theorem filter_lt {α : Type} {p q : α → Bool} : ∀ {l : List α}, (∀ x, x ∈ l → p x = true → q x = true) → (∃ x, x ∈ l ∧ q x = true ∧ p x = false) → (l.filter p).length < (l.filter q).length
  | [], _, h => by obtain ⟨x, hx, _⟩ := h; cases hx
  | a :: l, hs, h => by
    have hle : ∀ {l : List α}, (∀ x, x ∈ l → p x = true → q x = true) → (l.filter p).length ≤ (l.filter q).length := by
      intro l
      induction l with
      | nil => intro _; simp
      | cons a l ih =>
        intro hs
        have := ih fun x hx => hs x (List.mem_cons_of_mem _ hx)
        by_cases hp : p a = true
        · simp [hp, hs a List.mem_cons_self hp]; exact this
        · by_cases hq : q a = true
          · simp [hp, hq]; omega
          · simp [hp, hq]; exact this
    obtain ⟨x, hx, hq, hp⟩ := h
    have hs' : ∀ x, x ∈ l → p x = true → q x = true := fun x hx => hs x (List.mem_cons_of_mem _ hx)
    rcases List.mem_cons.1 hx with rfl | hx
    · have := hle hs'
      simp [hp, hq]
      omega
    · have := filter_lt hs' ⟨x, hx, hq, hp⟩
      by_cases hpa : p a = true
      · simp [hpa, hs a List.mem_cons_self hpa]; exact this
      · by_cases hqa : q a = true
        · simp [hpa, hqa]; omega
        · simp [hpa, hqa]; exact this
theorem unseen_lt {U ks ks2 : List ByteArray} {n : ByteArray} (h : ∀ x, x ∈ ks → x ∈ ks2) (hn : n ∈ U) (h1 : n ∉ ks) (h2 : n ∈ ks2) : unseen U ks2 < unseen U ks := by
  refine filter_lt (fun x hx hp => ?_) ⟨n, hn, by simpa using h1, by simpa using h2⟩
  simp only [Bool.not_eq_true', decide_eq_false_iff_not] at hp ⊢
  exact fun hk => hp (h x hk)
/-- All that can be reached, and no more. -/
theorem Visit.all {E : ByteArray → ByteArray → Prop} {n : ByteArray} {ks1 : List ByteArray} (h : Visit E [] n ks1) (x : ByteArray) : x ∈ ks1 ↔ RT E n x := by
  obtain ⟨_, h2, h3⟩ := h
  constructor
  · exact fun hx => (h3 x hx (by simp)).1
  · intro hr
    induction hr with
    | refl => exact h2
    | step _ e ih => exact (h3 _ ih (by simp)).2 _ e

/-! ### Whether a rung is well formed -/
def Eout (cs : List Contact) (n m : ByteArray) : Prop := ∃ x, x ∈ cs ∧ x.frm = n ∧ m = x.to
def Ein (cs : List Contact) (n m : ByteArray) : Prop := ∃ x, x ∈ cs ∧ x.to = n ∧ m = x.frm
theorem Eout_nodes {cs : List Contact} : ∀ x y, x ∈ nodesF cs → Eout cs x y → y ∈ nodesF cs := fun _ _ _ ⟨c, hc, _, h⟩ => nodesF_mem.2 (.inr (.inr ⟨c, hc, .inr h⟩))
theorem Ein_nodes {cs : List Contact} : ∀ x y, x ∈ nodesF cs → Ein cs x y → y ∈ nodesF cs := fun _ _ _ ⟨c, hc, _, h⟩ => nodesF_mem.2 (.inr (.inr ⟨c, hc, .inl h⟩))
def Acyclic (cs : List Contact) : Prop := ∃ rk : ByteArray → Nat, ∀ c, c ∈ cs → rk c.frm < rk c.to
def WF (cs : List Contact) : Prop := 0 < cs.length ∧ Acyclic cs ∧ ∀ x, x ∈ nodesF cs → RT (Eout cs) sL x ∧ RT (Ein cs) sR x
theorem mset_addN (x : ByteArray) (ks : List ByteArray) : mset (trues ks) x true = trues (addN ks x) := mset_trues x ks
/-- Is a node's every predecessor told? -/
noncomputable def toldP (cs : List Contact) (told : List ByteArray) (n : ByteArray) : Bool := yes (∀ x, x ∈ cs → x.to = n → x.frm ∈ told)
noncomputable def notTold (cs : List Contact) (told : List ByteArray) (i : Int) : Bool := yes (∃ x, cs[i.toNat]? = some x ∧ x.frm ∉ told)
theorem notTold_at {cs : List Contact} {told : List ByteArray} {j : Nat} (hj : j < cs.length) : notTold cs told (j : Int) = !yes (cs[j].frm ∈ told) := by
  rw [Bool.eq_iff_iff, notTold, yes_iff]
  simp [List.getElem?_eq_getElem hj, yes]
theorem toldP_any (cs : List Contact) (told : List ByteArray) (n : ByteArray) : (!((numI (fun c => decide (c.to = n)) cs cs.length).any (notTold cs told))) = toldP cs told n := by
  rw [Bool.eq_iff_iff, toldP, yes_iff, Bool.not_eq_true', List.any_eq_false]
  constructor
  · intro h x hx hto
    obtain ⟨j, hj, rfl⟩ := List.mem_iff_getElem.1 hx
    have := h (j : Int) (numI_mem.2 ⟨j, hj, rfl, decide_eq_true hto⟩)
    rw [notTold_at hj] at this
    simpa [yes] using this
  · intro h i hi
    obtain ⟨j, hj, rfl, hp⟩ := numI_mem.1 hi
    rw [notTold_at hj]
    simpa [yes] using h cs[j] (List.getElem_mem hj) (of_decide_eq_true hp)
theorem least_rank {α : Type} (rk : α → Nat) : ∀ (l : List α), 0 < l.length → ∃ x, x ∈ l ∧ ∀ y, y ∈ l → rk x ≤ rk y
  | [], h => by simp at h
  | [a], _ => ⟨a, by simp, fun y hy => by obtain rfl : y = a := by simpa using hy
                                          exact Nat.le_refl _⟩
  | a :: b :: r, _ => by
    obtain ⟨x, hx, hm⟩ := least_rank rk (b :: r) (by simp)
    rcases Nat.le_total (rk a) (rk x) with h | h
    · exact ⟨a, by simp, fun y hy => by
        rcases List.mem_cons.1 hy with rfl | hy
        · exact Nat.le_refl _
        · exact Nat.le_trans h (hm y hy)⟩
    · exact ⟨x, List.mem_cons_of_mem _ hx, fun y hy => by
        rcases List.mem_cons.1 hy with rfl | hy
        · exact h
        · exact hm y hy⟩
theorem topo_no {cs : List Contact} {told left : List ByteArray} (hne : 0 < left.length) (hinv : ∀ x, x ∈ nodesF cs → x ∈ told ∨ x ∈ left) (h : ¬ idxF (toldP cs told) left ≥ 0) : ¬ Acyclic cs := by
  rintro ⟨rk, hrk⟩
  obtain ⟨x, hx, hm⟩ := least_rank rk left hne
  have := idxF_neg h x hx
  rw [toldP, ← Bool.not_eq_true, yes_iff] at this
  refine this fun c hc hto => ?_
  rcases hinv c.frm (nodesF_mem.2 (.inr (.inr ⟨c, hc, .inl rfl⟩))) with h1 | h1
  · exact h1
  · have h2 := hm c.frm h1
    have h3 := hrk c hc
    rw [hto] at h3
    omega
theorem topo_step {cs : List Contact} {told left : List ByteArray} {m : Nat} (hm : m < left.length) (hinv : ∀ x, x ∈ nodesF cs → x ∈ told ∨ x ∈ left) : ∀ x, x ∈ nodesF cs → x ∈ addN told left[m] ∨ x ∈ left.take m ++ left.drop (m + 1) := by
  intro x hx
  rw [addN_mem]
  rcases hinv x hx with h | h
  · exact .inl (.inl h)
  · rw [show left = left.take (m + 1) ++ left.drop (m + 1) from (List.take_append_drop _ _).symm, take_succ left m hm] at h
    rcases List.mem_append.1 h with h | h
    · rcases List.mem_append.1 h with h | h
      · exact .inr (List.mem_append_left _ h)
      · exact .inl (.inr (by simpa using h))
    · exact .inr (List.mem_append_right _ h)
theorem yes_and {p q : Prop} : yes (p ∧ q) = decide (yes p = true ∧ yes q = true) := by
  rw [Bool.eq_iff_iff, yes_iff, decide_eq_true_eq, yes_iff, yes_iff]
theorem dead_none {cs : List Contact} {la lb : List ByteArray} (ha : ∀ x, x ∈ la ↔ x ∈ nodesF cs ∧ sL ∈ nodesF cs ∧ RT (Eout cs) sL x) (hb : ∀ x, x ∈ lb ↔ x ∈ nodesF cs ∧ sR ∈ nodesF cs ∧ RT (Ein cs) sR x) (h : ∀ x, x ∈ nodesF cs → RT (Eout cs) sL x ∧ RT (Ein cs) sR x) :
    ((nodesF cs).filter fun x => !(yes (x ∈ la ∧ x ∈ lb))).length = 0 := by
  rw [List.length_eq_zero_iff, List.filter_eq_nil_iff]
  intro x hx
  have h1 : x ∈ la ∧ x ∈ lb := ⟨(ha x).2 ⟨hx, nodesF_mem.2 (.inl rfl), (h x hx).1⟩, (hb x).2 ⟨hx, nodesF_mem.2 (.inr (.inl rfl)), (h x hx).2⟩⟩
  simp [yes_of h1]
/-- A list's numbering, by the first place. -/
def rkL : List ByteArray → ByteArray → Nat
  | [], _ => 0
  | a :: l, x => if x = a then 0 else rkL l x + 1
theorem rkL_in : ∀ {l r : List ByteArray} {x : ByteArray}, x ∈ l → rkL (l ++ r) x = rkL l x ∧ rkL l x < l.length
  | a :: l, r, x, h => by
    by_cases e : x = a
    · simp [rkL, e]
    · have hx : x ∈ l := by
        rcases List.mem_cons.1 h with h | h
        · exact absurd h e
        · exact h
      have := rkL_in (r := r) hx
      simp [rkL, e, this.1]
      omega
theorem rkL_new : ∀ {l : List ByteArray} {x : ByteArray}, x ∉ l → rkL (l ++ [x]) x = l.length
  | [], x, _ => by simp [rkL]
  | a :: l, x, h => by
    have e : ¬ x = a := fun e => h (by simp [e])
    have hx : x ∉ l := fun hx => h (by simp [hx])
    simp [rkL, e, rkL_new hx]
/-- Told nodes follow their predecessors. -/
def TopoI (cs : List Contact) (told : List ByteArray) : Prop := ∀ c, c ∈ cs → c.to ∈ told → c.frm ∈ told ∧ rkL told c.frm < rkL told c.to
theorem TopoI.nil (cs : List Contact) : TopoI cs [] := fun c _ h => nomatch h
theorem TopoI.step {cs : List Contact} {told : List ByteArray} {n : ByteArray} (h : TopoI cs told) (hn : toldP cs told n = true) : TopoI cs (addN told n) := by
  rw [toldP, yes_iff] at hn
  unfold addN
  split
  · exact h
  · rename_i hnew
    intro c hc hto
    rcases List.mem_append.1 hto with h1 | h1
    · obtain ⟨h2, h3⟩ := h c hc h1
      exact ⟨List.mem_append_left _ h2, by rw [(rkL_in h2).1, (rkL_in h1).1]; exact h3⟩
    · have h1 : c.to = n := by simpa using h1
      have h2 := hn c hc h1
      refine ⟨List.mem_append_left _ h2, ?_⟩
      rw [(rkL_in h2).1, h1, rkL_new hnew]
      exact (rkL_in (r := []) h2).2
theorem TopoI.acyclic {cs : List Contact} {told left : List ByteArray} (h : TopoI cs told) (hinv : ∀ x, x ∈ nodesF cs → x ∈ told ∨ x ∈ left) (hl : left.length = 0) : Acyclic cs := by
  refine ⟨rkL told, fun c hc => (h c hc ?_).2⟩
  rcases hinv c.to (nodesF_mem.2 (.inr (.inr ⟨c, hc, .inr rfl⟩))) with h1 | h1
  · exact h1
  · rw [List.eq_nil_of_length_eq_zero hl] at h1
    cases h1
theorem dead_iff {cs : List Contact} {la lb : List ByteArray} (ha : ∀ x, x ∈ la ↔ x ∈ nodesF cs ∧ sL ∈ nodesF cs ∧ RT (Eout cs) sL x) (hb : ∀ x, x ∈ lb ↔ x ∈ nodesF cs ∧ sR ∈ nodesF cs ∧ RT (Ein cs) sR x) :
    (∀ x, x ∈ nodesF cs → RT (Eout cs) sL x ∧ RT (Ein cs) sR x) ↔ ((nodesF cs).filter fun x => !(yes (x ∈ la ∧ x ∈ lb))).length = 0 := by
  refine ⟨dead_none ha hb, fun h x hx => ?_⟩
  rw [List.length_eq_zero_iff, List.filter_eq_nil_iff] at h
  have := h x hx
  have h1 : x ∈ la ∧ x ∈ lb := (yes_iff _).1 (by simpa using this)
  exact ⟨((ha x).1 h1.1).2.2, ((hb x).1 h1.2).2.2⟩
end Go.Proofs.YtolggjmgfijjfaaGreatDoor.Sep
