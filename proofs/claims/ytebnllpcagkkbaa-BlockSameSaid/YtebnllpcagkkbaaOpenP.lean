/- How a list of pairs that came in is read. -/
import Derived.Test.YtebnllpcagkkbaaOpen
import Derived.Test.YtebnllpcagkkbaaBk0
namespace Go.Proofs.Ytebnllpcagkkbaa
open Go.ChangeShapes Go.WideShapes Go.ChangeAt Go.RowKit Go.Joins Go.Deep
set_option linter.unusedVariables false

section
variable {H : Type} {enc : TypeId × Value → H} {W : World} {spare : Nat → Bool} {held : Bool} {base : Nat}

instance : Inhabited PairD := ⟨⟨⟨#[]⟩, ⟨#[]⟩⟩⟩
theorem pairs_open {a : Option Addr} {len cap : Nat} {d : DataW H} {p : List MemPlace} (h : DataW.Trod enc Try.prog W base spare held 25 (.slice a len cap) d p) :
    ∃ l, len = l.length ∧ PRs W a l ∧ l.length ≤ maxLen := by
  obtain ⟨fuel, hf⟩ := h
  rcases open_slice_fields Try.underlying25 Try.underlying35 (by kernel_rfl) (by kernel_rfl) hf with ⟨hcs, _⟩ | ⟨x, len', c, m, hcs, hl, hm, hmm, hi⟩
  · simp [Value.cells] at hcs
    obtain ⟨rfl, rfl, rfl⟩ := hcs
    exact ⟨[], rfl, ⟨fun h => by simp at h, fun x hx => by simp at hx⟩, by simp⟩
  · simp [Value.cells] at hcs
    obtain ⟨rfl, rfl, rfl⟩ := hcs
    obtain ⟨f, hF⟩ := choose_lt (α := PairD) (n := len) (p := fun i q => PairOk q ∧ W.cell? (x.add (i * 2 + 0)) = some (.string q.key) ∧ W.cell? (x.add (i * 2 + 1)) = some (.string q.val)) (fun i hi' => by
      obtain ⟨n, hq⟩ := hi i (by omega)
      obtain ⟨v0, y0, c0, t0⟩ := hq 0 _ rfl
      obtain ⟨v1, y1, c1, t1⟩ := hq 1 _ rfl
      obtain ⟨n0, e0, _, w0⟩ := DataW.trod_string Try.underlying9 t0
      obtain ⟨n1, e1, _, w1⟩ := DataW.trod_string Try.underlying9 t1
      simp only [List.cons.injEq, and_true] at e0 e1
      subst e0 e1
      exact ⟨⟨n0, n1⟩, ⟨w0, w1⟩, c0, c1⟩)
    refine ⟨(List.range len).map f, by simp, ⟨fun hp => ?_, fun y hy => ?_⟩, by simp; omega⟩
    · simp at hp
      obtain ⟨b, off, spot⟩ := x
      have hc0 := (hF 0 hp).2.1
      have hspot : spot = none := by simpa [Addr.add] using World.cell?_spot hc0
      subst hspot
      refine ⟨b, off, rfl, fun j hj => ?_⟩
      simp at hj
      obtain ⟨_, q0, q1⟩ := hF j hj
      rw [add_none] at q0 q1
      simp only [List.getElem_map, List.getElem_range]
      exact ⟨q0, by rw [Nat.add_assoc]; exact q1⟩
    · obtain ⟨i, hi', rfl⟩ := List.mem_map.1 hy
      exact (hF i (by simpa using hi')).1
end
end Go.Proofs.Ytebnllpcagkkbaa
