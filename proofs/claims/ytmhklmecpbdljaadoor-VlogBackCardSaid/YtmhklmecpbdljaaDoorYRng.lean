/- A range over an iterator that hands out what lies in memory: X tells what the body may know of it where it is called. -/
import Derived.RangeFuncNested
import Derived.RangeFuncBound
import Derived.RangeFuncCalls
import Derived.RangeFuncLeaves
import Derived.RangeFuncWrites
import Derived.Shelf.Abstract
import Derived.WalkKit
import Derived.OwnWalkIn
import Derived.Test.YtmhklmecpbdljaaDoorYRow
namespace Go.Proofs.YtmhklmecpbdljaaDoor
open Go.RowKit Go.Shelf
set_option linter.unusedVariables false

def SeqHeld {α : Type} (F : Fence) (n : Nat) (P : Program) (g : Nat) (lb : Array Value) (encs : α → Array Value) (Kp : World → World → Prop) (X : List α → α → World → Prop) (S : List α → Prop) (w : World) : Prop :=
  ∀ (l : Nat) (J : List α → World → Prop) (W : World), Below w.heap.size w W → AbidesFrom W.heap.size J →
    (∀ pre x W1, J pre W1 → X pre x W1 → YieldAt F (n - 1) P l (encs x) W1 fun e W' => e = .returned (.bool true) ∧ J (pre ++ [x]) W' ∧ Kp W1 W') →
    J [] W →
    CallsIn F n P g (#[.func (.yield l) #[] #[]] ++ lb) W fun e W' => (∃ v, e = .returned v) ∧ ∃ xs, S xs ∧ J xs W'

/-- how a round ends that never leaves the loop -/
def roundEnd (B : Nat) (R : World → Prop) (W : World) : Exit → Act → World → Prop
  | .normal, _, W' => KeepsFrom B W W' ∧ R W'
  | _, _, _ => False

theorem range_held {F : Fence} {n : Nat} {P : Program} {α : Type} {g : Operand} {ps : Array Tmp} {assign body : Code} {Q : Exit → Act → World → Prop} {a : Act} {w : World}
    (hro : F.round = none) (h1 : 1 ≤ n) {gf : Nat} {lb : Array Value} (hg : a.eval g = .func (.func gf) #[] lb) (hFg : F.fn gf) (eg : ∀ args w, (callFunc gf args).run P w = .ok (.enter gf args) w)
    {encs : α → Array Value} {Kp : World → World → Prop} {X : List α → α → World → Prop} {S : List α → Prop} (hseq : SeqHeld F (n - 1) P gf lb encs Kp X S w)
    (hKt : ∀ {A B C : World}, Kp A B → Kp B C → Kp A C) (hKb : ∀ (W : World) (l : Nat) (o o' : Obj), w.heap.size ≤ l → W.heap[l]? = some o → o.isCells = false → o.isWalk = false → Kp W (W.putObj l o'))
    (hps : ∀ x, (encs x).size = ps.size)
    (I : List α → World → Prop) (hI : OwnFrom w.heap.size I) (hX : ∀ pre, OwnFrom w.heap.size (X pre)) (h0 : I [] w) (a₁ : α → Act)
    (hassign : ∀ (l : Nat) (x : α) (W : World) (K : Act → World → Prop), K (a₁ x) W →
      assign.wpIn (F.inRound l) (n - 1 - 1) P (Exit.then K (fun _ _ _ => False)) { tmps := (ps.zip (encs x)).foldl (fun t (p, v) => t.setIfInBounds p v) a.tmps, defers := [] } W)
    (hbody : ∀ (l : Nat) (pre : List α) (x : α) (W : World), I pre W → X pre x W → body.wpIn (F.inRound l) (n - 1 - 1) P (roundEnd w.heap.size (fun W' => Kp W W' ∧ I (pre ++ [x]) W') W) (a₁ x) W)
    (hdone : ∀ (D : Nat) (xs : List α) (W : World), w.heap.size ≤ D → S xs → I xs W → W.heap[D]? = some (.deferred (some [])) → Q .normal { a with defers := { target := .collected D, args := #[] } :: a.defers } W) :
    (Code.rangeFunc g ps assign body).wpIn F n P Q a w := by
  refine wpIn_rangeFunc fun fn hfn => ?_
  rw [hro]
  let R : LoopState → Loop := fun st => { state := st, pending := none, fn, tmps := a.tmps, params := ps, assign, body, defers := w.heap.size }
  have bW : Below w.heap.size w ((w.alloc (.deferred (some []))).alloc (.loop (R .ready))) := ((Below.refl _ w).alloc (Nat.le_refl _) _).alloc (by simp) _
  have zW : ((w.alloc (.deferred (some []))).alloc (.loop (R .ready))).heap.size = w.heap.size + 2 := by simp
  have pL : ((w.alloc (.deferred (some []))).alloc (.loop (R .ready))).heap[w.heap.size + 1]? = some (.loop (R .ready)) := by
    have := World.alloc_heap_new (w.alloc (.deferred (some []))) (.loop (R .ready))
    rwa [World.size_alloc] at this
  have pD : ((w.alloc (.deferred (some []))).alloc (.loop (R .ready))).heap[w.heap.size]? = some (.deferred (some [])) :=
    (Below.heap_alloc _ _ _ (by simp)).trans (World.alloc_heap_new w _)
  have pI : I [] ((w.alloc (.deferred (some []))).alloc (.loop (R .ready))) := hI.alloc _ (hI.alloc _ h0)
  refine ⟨w.heap.size + 1, [{ target := .collected w.heap.size, args := #[] }], (w.alloc (.deferred (some []))).alloc (.loop (R .ready)), { target := .fn (.func gf) lb, args := #[.func (.yield (w.heap.size + 1)) #[] #[]] }, (w.alloc (.deferred (some []))).alloc (.loop (R .ready)), gf,
    #[.func (.yield (w.heap.size + 1)) #[] #[]] ++ lb, (w.alloc (.deferred (some []))).alloc (.loop (R .ready)), run_enterLoop_outer _ _ _ _ _, ?_, ?_, ?_, fun _ => h1, ?_⟩
  · simp only [resolve, hg]; simp [go_sem]
  · intro f' hf'
    simp [Target.leads] at hf'
    subst hf'
    exact hFg
  · simp [invoke, go_sem, eg]
  generalize (w.alloc (.deferred (some []))).alloc (.loop (R .ready)) = W1 at *
  have turn : ∀ {A B : World} {row : Option Nat}, (∀ r, row = some r → W1.heap.size ≤ r ∧ ∃ o : Obj, A.heap[r]? = some o ∧ o.isWalk = true) → ∀ r, row = some r → w.heap.size ≤ r ∧ ∃ o : Obj, A.heap[r]? = some o ∧ o.isCells = false := fun hr r e => by
    obtain ⟨hb, o, ho, hw⟩ := hr r e
    exact ⟨by omega, o, ho, Obj.not_cells_of_walk hw⟩
  refine (hseq (w.heap.size + 1) (fun pre W => I pre W ∧ W.heap[w.heap.size + 1]? = some (.loop (R .ready)) ∧ W.heap[w.heap.size]? = some (.deferred (some []))) W1 bW ?_ ?_ ⟨pI, pL, pD⟩).mono ?_
  · rintro pre A B row ⟨i1, i2, i3⟩ hgr hr
    exact ⟨hI pre A B row i1 hgr (turn (B := B) hr), (grownBy_keeps hgr (fun r e => (hr r e).2) i2 rfl).trans i2, (grownBy_keeps hgr (fun r e => (hr r e).2) i3 rfl).trans i3⟩
  · rintro pre x W ⟨i1, i2, i3⟩ hx
    have hz : w.heap.size + 1 < W.heap.size := (Array.getElem?_eq_some_iff.1 i2).1
    refine ⟨fn, _, assign, body, run_yield (P := P) (args := encs x) i2 (hps x), roundIn_of_wpIn hfn (hassign _ x W _ ⟨_, run_beginRound i2 rfl, ?_⟩)⟩
    have j2 : (W.putObj (w.heap.size + 1) (.loop (R .busy))).heap[w.heap.size + 1]? = some (.loop (R .busy)) := World.putObj_heap_same hz
    have j3 : (W.putObj (w.heap.size + 1) (.loop (R .busy))).heap[w.heap.size]? = some (.deferred (some [])) := (World.putObj_heap_other (by omega)).trans i3
    have jk : Kp W (W.putObj (w.heap.size + 1) (.loop (R .busy))) := hKb _ _ _ _ (by omega) i2 rfl rfl
    refine wpIn_mono (hbody _ pre x _ (hI.putObj _ i1 (by omega) i2 rfl) ((hX pre).putObj _ hx (by omega) i2 rfl)) ?_
    rintro e a3 W3 hp
    cases e with
    | normal =>
      obtain ⟨hk, hkp, hi3⟩ := hp
      have l3 := hk.same _ _ (by omega) j2 rfl
      have d3 := hk.same _ _ (Nat.le_refl _) j3 rfl
      have z3 : w.heap.size + 1 < W3.heap.size := (Array.getElem?_eq_some_iff.1 l3).1
      refine ⟨_, _, run_endRound (P := P) none l3, rfl, ⟨hI.putObj _ hi3 (by omega) l3 rfl, World.putObj_heap_same z3, (World.putObj_heap_other (by omega)).trans d3⟩, hKt (hKt jk hkp) (hKb _ _ _ _ (by omega) l3 rfl rfl)⟩
    | ret => exact hp.elim
    | exit id => exact hp.elim
    | goto t => exact hp.elim
    | panic ch => exact hp.elim
    | outgrown => exact hp.elim
  · rintro e W2 ⟨⟨v, rfl⟩, xs, hS, i1, i2, i3⟩
    exact ⟨none, _, run_endLoop (P := P) i2 (by simp [R]), hdone _ xs _ (Nat.le_refl _) hS (hI.putObj _ i1 (by omega) i2 rfl) ((World.putObj_heap_other (by omega)).trans i3)⟩
end Go.Proofs.YtmhklmecpbdljaaDoor
