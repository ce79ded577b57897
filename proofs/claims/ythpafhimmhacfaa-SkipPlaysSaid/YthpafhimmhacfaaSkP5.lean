/- One level of Put. -/
import Derived.Test.YthpafhimmhacfaaSkP4
namespace Go.Proofs.Ythpafhimmhacfaa
open Go.RowKit
set_option linter.unusedVariables false
set_option linter.unusedSimpArgs false
section
variable {κ : Type}
theorem nxJ_high (T : List (SE κ)) (c : Nat) (n : SE κ) (j i ht : Nat) (hj : ht ≤ j) : nxJ T c n (j + 1) i ht = nxJ T c n j i ht := by
  unfold nxJ
  refine List.map_congr_left fun x hx => ?_
  have := List.mem_range.1 hx
  rw [if_pos (by omega), if_pos (by omega)]
/-- the list while the levels below j are done -/
structure SKJ (NT LT : TypeId) (ek : κ → Value) (w : World) (B p : Nat) (v : Value) (T : List (SE κ)) (c : Nat) (n : SE κ) (j : Nat) : Prop where
  box : w.heap[p]? = some (.cells #[v] LT (0, 0))
  row : ∃ xs, w.ownsRow B NT 3 v T.length xs ∧ ∀ e ∈ T, xs[3 * e.id]? = some (ek e.key) ∧ xs[3 * e.id + 1]? = some e.val ∧ xs[3 * e.id + 2]? = some (.slice (some ⟨e.blk, 0, none⟩) e.ht e.ht)
  next : ∀ i (hi : i < T.length), w.ownsRow B 3 1 (.slice (some ⟨T[i].blk, 0, none⟩) T[i].ht T[i].ht) T[i].ht (nxJ T c n j i T[i].ht)
theorem SK.toJ {NT LT : TypeId} {ek : κ → Value} {w : World} {B p : Nat} {v : Value} {T : List (SE κ)} (h : SK NT LT ek w B p v T) (c : Nat) (n : SE κ) : SKJ NT LT ek w B p v T c n 0 :=
  ⟨h.box, h.row, fun i hi => by rw [nxJ_zero]; exact h.next i hi⟩
theorem SKJ.below {NT LT : TypeId} {ek : κ → Value} {w w' : World} {B p : Nat} {v : Value} {T : List (SE κ)} {c : Nat} {n : SE κ} {j : Nat} (h : SKJ NT LT ek w B p v T c n j) (hb : Below w.heap.size w w') : SKJ NT LT ek w' B p v T c n j := by
  obtain ⟨xs, hr, hx⟩ := h.row
  exact ⟨(hb.block p (blk_lt h.box)).trans h.box, ⟨xs, row_past hr hb (Nat.le_refl _), hx⟩, fun i hi => row_past (h.next i hi) hb (Nat.le_refl _)⟩
/-- the store at level j: at the node where the search ended -/
theorem SKJ.step {lt : κ → κ → Bool} {k : κ} {NT LT : TypeId} {ek : κ → Value} {w : World} {B p : Nat} {v : Value} {T : List (SE κ)} {c : Nat} {n : SE κ} {j i : Nat} (h : SKJ NT LT ek w B p v T c n j)
    (hN : NT ≠ 3) (hL : LT ≠ 3) (hap : ∀ i j (hi : i < T.length) (hj : j < T.length), T[i].blk = T[j].blk → i = j) (hc : CutAt lt T k c) (hj : j < n.ht) (hi : i < T.length) (hp : PredAt' lt T k j i) :
    SKJ NT LT ek (w.setCell ⟨T[i].blk, j, none⟩ (.int .i64 (n.id : Nat))) B p v T c n (j + 1) := by
  obtain ⟨_, hij, hib, hia⟩ := hp
  obtain ⟨c1, c2, c3, c4⟩ := hc
  have hic : i < c := by
    rcases Nat.lt_or_ge i c with h1 | h1
    · exact h1
    · rcases hib with h2 | h2
      · omega
      · rw [c4 i hi h1] at h2; cases h2
  have hmid : ∀ x (hx : x < T.length), i < x → x < c → T[x].ht ≤ j := fun x hx h1 h2 => by
    rcases Nat.lt_or_ge j T[x].ht with h3 | h3
    · have := hia x hx h1 h3
      rw [c3 x hx (by omega) h2] at this; cases this
    · exact h3
  obtain ⟨e1, e2⟩ := ins_none (n := n) (h := j) hic c2 hmid
  rw [if_pos hj] at e2
  obtain ⟨xs, hr, hx⟩ := h.row
  have hni := h.next i hi
  have hst := (World.ownsRow.stored hni j (.int .i64 (n.id : Nat))).1
  refine ⟨?_, ⟨xs, ?_, hx⟩, ?_⟩
  · exact blk_chg h.box (Chg.set w _ j _) (fun e => row_ne3 hni h.box hL (by rw [e]; rfl))
  · exact row_same hr fun q hq => (Chg.set w _ j _).block q (World.ownsRow.lt hr q hq).2 (fun e => row_two hr hni hN q hq (by rw [e]; rfl))
  · intro x hx'
    by_cases e : x = i
    · subst e
      rw [nxJ_step_set T c n j x _ hij, e2]
      exact hst
    · have hnx := h.next x hx'
      have hsame : nxJ T c n (j + 1) x T[x].ht = nxJ T c n j x T[x].ht := by
        by_cases h1 : x < c
        · by_cases h2 : x < i
          · exact nxJ_step_other T c n j x _ (ins_some h1 c2 ⟨i, hi, h2, hic, hij⟩)
          · exact nxJ_high T c n j x _ (hmid x hx' (by omega) h1)
        · exact nxJ_step_other T c n j x _ (by unfold tailI; rw [if_neg h1])
      rw [hsame]
      exact row_same hnx fun q hq => (Chg.set w _ j _).block q (World.ownsRow.lt hnx q hq).2 (fun he => by
        have : T[x].blk = q := by simpa [Value.ownBlock] using hq
        exact e (hap x i hx' hi (by rw [this, he])))
end
end Go.Proofs.Ythpafhimmhacfaa
