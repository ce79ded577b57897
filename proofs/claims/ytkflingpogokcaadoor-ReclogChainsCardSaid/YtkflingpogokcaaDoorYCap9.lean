/- A list of byte slices that came in, with its capacity. -/
import Derived.Test.YtkflingpogokcaaDoorYOpen
namespace Go.Proofs.YtkflingpogokcaaDoor
open Go.ChangeShapes Go.WideShapes Go.ChangeAt Go.RowKit Go.Joins Go.Deep
set_option linter.unusedVariables false
variable {H : Type} {enc : TypeId × Value → H} {W : World} {base : Nat} {spare : Nat → Bool} {held : Bool}
theorem bytess_open_cap {a : Option Addr} {len cap : Nat} {d : DataW H} {p : List MemPlace} (h : DataW.Trod enc Tryd.prog W base spare held 25 (.slice a len cap) d p) :
    ∃ l, len = l.length ∧ BSs W a l ∧ (l.length ≤ maxLen ∧ l.length ≤ cap) := by
  obtain ⟨l, rfl, hb, hl⟩ := bytess_open h
  refine ⟨l, rfl, hb, hl, ?_⟩
  obtain ⟨fuel, hf⟩ := h
  rcases open_slice1 Tryd.underlying25 (by kernel_rfl) hf with ⟨hcs, _⟩ | ⟨x, len', c, m, n, V, D, Pl, hcs, _, hl2, hm, hmm, _, hi⟩
  · simp [Value.cells] at hcs
    obtain ⟨_, h2, rfl⟩ := hcs
    simp [h2]
  · simp [Value.cells] at hcs
    obtain ⟨_, rfl, rfl⟩ := hcs
    exact hl2
end Go.Proofs.YtkflingpogokcaaDoor
