/- alloc.Table with its queue, and a device beside it: in memory. -/
import Derived.Test.YtcgjkgcafkcgoaaAlList
import Derived.Test.YtcgjkgcafkcgoaaAlTab
import Derived.Test.YtcgjkgcafkcgoaaZl
import Derived.Test.YtcgjkgcafkcgoaaShelf
import Derived.Lib.OwnBridge
namespace Go.Proofs.Ytcgjkgcafkcgoaa
open Go.RowKit
set_option linter.unusedVariables false
set_option linter.unusedSimpArgs false

theorem heap_set1z {w : World} {p : Nat} {a b v : Value} {T : TypeId} (h : w.heap[p]? = some (.cells #[a, b] T (0, 0))) : (w.setCell ⟨p, 1, none⟩ v).heap[p]? = some (.cells #[a, v] T (0, 0)) := heap_set_listz (l := [a, b]) h 1 v
/-- a table whose queue is Q -/
structure TQ (w : World) (B p g : Nat) (R : List Int) (v : Value) (Q : List Int) : Prop where
  tb : TB w B p g R v
  q : w.ownsRow B 3 1 v Q.length (ivs Q)
  vp : v.ownBlock ≠ some p
  vg : v.ownBlock ≠ some g
def fpT (p g : Nat) (v : Value) (k : Nat) : Prop := k = p ∨ k = g ∨ v.ownBlock = some k
theorem TQ.lt {w : World} {B p g : Nat} {R : List Int} {v : Value} {Q : List Int} (h : TQ w B p g R v Q) : ∀ k, fpT p g v k → B ≤ k ∧ k < w.heap.size := by
  rintro k (rfl | rfl | hk)
  · exact ⟨h.tb.2.2.1, h.tb.plt⟩
  · exact h.tb.glt
  · exact World.ownsRow.lt h.q k hk
theorem TQ.chg {G : Nat → Prop} {w w' : World} {B p g : Nat} {R : List Int} {v : Value} {Q : List Int} (h : TQ w B p g R v Q) (hc : Chg G w w') (hd : ∀ k, fpT p g v k → ¬ G k) : TQ w' B p g R v Q := by
  refine ⟨⟨blk_chg h.tb.1 hc (hd p (.inl rfl)), row_same h.tb.2.1 fun k hk => ?_, h.tb.2.2.1, h.tb.2.2.2⟩, row_same h.q fun k hk => hc.block k (World.ownsRow.lt h.q k hk).2 (hd k (.inr (.inr hk))), h.vp, h.vg⟩
  have e : g = k := by simpa [Value.ownBlock] using hk
  subst e
  exact hc.block g h.tb.glt.2 (hd g (.inr (.inl rfl)))
theorem TQ.set {w : World} {B p g : Nat} {R : List Int} {v : Value} {Q : List Int} (h : TQ w B p g R v Q) (n : Nat) (x : Int) : TQ (w.setCell ⟨g, n, none⟩ (.int .i64 x)) B p g (R.set n x) v Q :=
  ⟨h.tb.set n x, row_same h.q fun k hk => (Chg.set w g n _).block k (World.ownsRow.lt h.q k hk).2 (fun e => h.vg (by rw [hk, e])), h.vp, h.vg⟩
/-- a new queue is stored -/
theorem TQ.putQ {w : World} {B p g : Nat} {R : List Int} {v : Value} {Q : List Int} (h : TQ w B p g R v Q) {v1 : Value} {Q1 : List Int} (ho : w.ownsRow B 3 1 v1 Q1.length (ivs Q1)) (h1 : ∀ k, v1.ownBlock = some k → v.ownBlock = some k ∨ ¬ fpT p g v k) : TQ (w.setCell ⟨p, 1, none⟩ v1) B p g R v1 Q1 := by
  have hp : v1.ownBlock ≠ some p := fun e => by
    rcases h1 p e with h2 | h2
    · exact h.vp h2
    · exact h2 (.inl rfl)
  have hg : v1.ownBlock ≠ some g := fun e => by
    rcases h1 g e with h2 | h2
    · exact h.vg h2
    · exact h2 (.inr (.inl rfl))
  refine ⟨⟨heap_set1z h.tb.1, row_same h.tb.2.1 fun k hk => ?_, h.tb.2.2.1, h.tb.2.2.2⟩, row_same ho fun k hk => (Chg.set w p 1 v1).block k (World.ownsRow.lt ho k hk).2 (fun e => hp (by rw [hk, e])), hp, hg⟩
  have e : g = k := by simpa [Value.ownBlock] using hk
  subst e
  exact (Chg.set w p 1 v1).block g h.tb.glt.2 h.tb.ne
/-- at block p a table, at block d a device, both in the blocks H -/
def AT (w : World) (B p d : Nat) (H : Nat → Prop) (R Q : List Int) (D : Dv) : Prop :=
  ∃ g v G, TQ w B p g R v Q ∧ DI w B d G D ∧ (∀ k, fpT p g v k → ¬ G k) ∧ ∀ k, H k ↔ fpT p g v k ∨ G k
def AOut (w : World) (B p d : Nat) (H : Nat → Prop) (R Q : List Int) (D : Dv) (w' : World) : Prop :=
  (∃ H', AT w' B p d H' R Q D ∧ ∀ k, H' k → H k ∨ w.heap.size ≤ k) ∧ Chg H w w'
section
variable {w w' : World} {B p d : Nat} {H : Nat → Prop} {R Q : List Int} {D : Dv}
theorem AT.ge (h : AT w B p d H R Q D) : ∀ k, H k → B ≤ k ∧ k < w.heap.size := by
  obtain ⟨g, v, G, hT, hD, ha, hH⟩ := h
  intro k hk
  rcases (hH k).1 hk with h1 | h1
  · exact hT.lt k h1
  · exact hD.ge k h1
theorem AT.chg {E : Nat → Prop} (h : AT w B p d H R Q D) (hc : Chg E w w') (hd : ∀ k, H k → ¬ E k) : AT w' B p d H R Q D := by
  obtain ⟨g, v, G, hT, hD, ha, hH⟩ := h
  exact ⟨g, v, G, hT.chg hc fun k hk => hd k ((hH k).2 (.inl hk)), hD.chg hc fun k hk => hd k ((hH k).2 (.inr hk)), ha, hH⟩
theorem AT.below (h : AT w B p d H R Q D) (hb : Below w.heap.size w w') : AT w' B p d H R Q D := h.chg (E := fun _ => False) (Chg.of_below hb) fun _ _ h => h
theorem AT.room (h : AT w B p d H R Q D) : B ≤ w.heap.size := by
  obtain ⟨g, v, G, hT, hD, ha, hH⟩ := h
  exact hD.room
theorem AT.rl (h : AT w B p d H R Q D) : R.length ≤ 64 := by
  obtain ⟨g, v, G, hT, hD, ha, hH⟩ := h
  exact hT.tb.2.2.2
theorem AOut.below (h : AOut w B p d H R Q D w') (h0 : ∀ k, H k → B ≤ k ∧ k < w.heap.size) (hB : B ≤ w.heap.size) : Below B w w' := h.2.below (fun k hk => (h0 k hk).1) hB
theorem AOut.same (h : AT w B p d H R Q D) : AOut w B p d H R Q D w := ⟨⟨H, h, fun k hk => .inl hk⟩, Chg.refl _ _⟩
/-- the table has turned -/
theorem AT.tab {g : Nat} {v v' : Value} {G : Nat → Prop} {R' Q' : List Int} (hT : TQ w B p g R v Q) (hD : DI w B d G D) (ha : ∀ k, fpT p g v k → ¬ G k) (hH : ∀ k, H k ↔ fpT p g v k ∨ G k) (hT' : TQ w' B p g R' v' Q') (hc : Chg (fpT p g v) w w') (hf : ∀ k, v'.ownBlock = some k → v.ownBlock = some k ∨ w.heap.size ≤ k) : AOut w B p d H R' Q' D w' := by
  have hf2 : ∀ k, fpT p g v' k → fpT p g v k ∨ w.heap.size ≤ k := by
    rintro k (h | h | h)
    · exact .inl (.inl h)
    · exact .inl (.inr (.inl h))
    · rcases hf k h with h1 | h1
      · exact .inl (.inr (.inr h1))
      · exact .inr h1
  refine ⟨⟨fun k => fpT p g v' k ∨ G k, ⟨g, v', G, hT', hD.chg hc (fun k hk hf => ha k hf hk), fun k hk hg => ?_, fun k => Iff.rfl⟩, fun k hk => ?_⟩, hc.mono fun k hk => (hH k).2 (.inl hk)⟩
  · rcases hf2 k hk with h1 | h1
    · exact ha k h1 hg
    · have := (hD.ge k hg).2; omega
  · rcases hk with h1 | h1
    · rcases hf2 k h1 with h2 | h2
      · exact .inl ((hH k).2 (.inl h2))
      · exact .inr h2
    · exact .inl ((hH k).2 (.inr h1))
/-- the device has turned -/
theorem AT.dev {g : Nat} {v : Value} {G : Nat → Prop} {D' : Dv} (hT : TQ w B p g R v Q) (hD : DI w B d G D) (ha : ∀ k, fpT p g v k → ¬ G k) (hH : ∀ k, H k ↔ fpT p g v k ∨ G k) (h : DOut w B d G D' w') : AOut w B p d H R Q D' w' := by
  obtain ⟨⟨G', hD', hG⟩, hc⟩ := h
  refine ⟨⟨fun k => fpT p g v k ∨ G' k, ⟨g, v, G', hT.chg hc ha, hD', fun k hk hg => ?_, fun k => Iff.rfl⟩, fun k hk => ?_⟩, hc.mono fun k hk => (hH k).2 (.inr hk)⟩
  · rcases hG k hg with h1 | h1
    · exact ha k hk h1
    · have := (hT.lt k hk).2; omega
  · rcases hk with h1 | h1
    · exact .inl ((hH k).2 (.inl h1))
    · rcases hG k h1 with h2 | h2
      · exact .inl ((hH k).2 (.inr h2))
      · exact .inr h2
end
end Go.Proofs.Ytcgjkgcafkcgoaa
