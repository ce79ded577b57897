/- How a list of strings that came in is read. -/
import Derived.Test.YtebnllpcagkkbaaOpen
import Derived.Test.YtebnllpcagkkbaaBrfd
namespace Go.Proofs.Ytebnllpcagkkbaa
open Go.ChangeShapes Go.WideShapes Go.ChangeAt Go.RowKit Go.Joins Go.Deep
set_option linter.unusedVariables false

section
variable {H : Type} {enc : TypeId × Value → H} {W : World} {spare : Nat → Bool} {held : Bool} {base : Nat}
instance : Inhabited ByteArray := ⟨⟨#[]⟩⟩
theorem strs_open {a : Option Addr} {len cap : Nat} {d : DataW H} {p : List MemPlace} (h : DataW.Trod enc Try.prog W base spare held 46 (.slice a len cap) d p) :
    ∃ l, len = l.length ∧ SRs W a l ∧ l.length ≤ maxLen := by
  obtain ⟨fuel, hf⟩ := h
  rcases open_slice1 Try.underlying46 (by kernel_rfl) hf with ⟨hcs, _⟩ | ⟨x, len', c, m, n, V, D, Pl, hcs, _, hl, hm, hmm, _, hi⟩
  · simp [Value.cells] at hcs
    obtain ⟨rfl, rfl, rfl⟩ := hcs
    exact ⟨[], rfl, ⟨fun h => by simp at h, fun x hx => by simp at hx⟩, by simp⟩
  · simp [Value.cells] at hcs
    obtain ⟨rfl, rfl, rfl⟩ := hcs
    have hl2 : len ≤ m := by rw [hmm]; split <;> omega
    obtain ⟨f, hF⟩ := choose_lt (α := ByteArray) (n := len) (p := fun i u => V i = .string u ∧ u.size ≤ maxLen) (fun i hi' => by
      obtain ⟨n0, e0, _, w0⟩ := DataW.trod_string Try.underlying9 (hi i (by omega)).2
      simp only [List.cons.injEq, and_true] at e0
      exact ⟨n0, e0, w0⟩)
    refine ⟨(List.range len).map f, by simp, ⟨fun hp => ?_, fun y hy => ?_⟩, by simp; omega⟩
    · simp at hp
      obtain ⟨b, off, spot⟩ := x
      have hc0 := (hi 0 (by omega)).1
      have hspot : spot = none := by simpa [Addr.add] using World.cell?_spot hc0
      subst hspot
      refine ⟨b, off, rfl, fun j hj => ?_⟩
      simp at hj
      rw [← add_none, (hi j (by omega)).1, (hF j hj).1]
      simp
    · obtain ⟨i, hi', rfl⟩ := List.mem_map.1 hy
      exact (hF i (by simpa using hi')).2
end
end Go.Proofs.Ytebnllpcagkkbaa
