/- Chapter 09: ReclogPlaces. -/
import Derived.Test.YtmhklmecpbdljaaDoorYPl1
namespace Go.Proofs.YtmhklmecpbdljaaDoor
open Go.RowKit Go.Shelf
set_option linter.unusedVariables false
set_option linter.unusedSimpArgs false

theorem cell_four4 {w : World} {k : Nat} {a b c d : Value} {T : TypeId} (h : w.heap[k]? = some (.cells #[a, b, c, d] T (0, 0))) : w.cell? ⟨k, 0, none⟩ = some a ∧ w.cell? ⟨k, 1, none⟩ = some b ∧ w.cell? ⟨k, 2, none⟩ = some c ∧ w.cell? ⟨k, 3, none⟩ = some d := by
  refine ⟨?_, ?_, ?_, ?_⟩ <;> (rw [cell_of_row _ _ _ _ _ _ h]; rfl)
theorem kz_one (w : World) (z : Nat) : KZ (w.alloc (.cells #[.int .i64 (z : Nat)] 3)) (some ⟨w.heap.size, 0, none⟩) (zin [z]) := fun _ => ⟨_, 0, rfl, fun i hi => by
  have h1 : i = 0 := by rw [zin_len] at hi; simp at hi; exact hi
  subst h1
  rw [cell_of_row _ _ _ _ _ _ (heap_alloc_new w _)]
  rfl⟩
end Go.Proofs.YtmhklmecpbdljaaDoor
