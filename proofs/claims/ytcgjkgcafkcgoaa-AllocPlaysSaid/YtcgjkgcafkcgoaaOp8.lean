/- How a script of chapter 08 is read. -/
import Derived.Test.YtcgjkgcafkcgoaaOpen
namespace Go.Proofs.Ytcgjkgcafkcgoaa
open Go.ChangeShapes Go.WideShapes Go.ChangeAt Go.RowKit Go.Joins Go.Deep
set_option linter.unusedVariables false

structure O8 where
  k : Int
  v : Int
  h : Int
instance : Inhabited O8 := ⟨⟨0, 0, 0⟩⟩
def O8Ok (x : O8) : Prop := (-9223372036854775808 ≤ x.k ∧ x.k ≤ 9223372036854775807) ∧ (-9223372036854775808 ≤ x.v ∧ x.v ≤ 9223372036854775807) ∧ (-9223372036854775808 ≤ x.h ∧ x.h ≤ 9223372036854775807)
/-- a slice of puts -/
def O8s (w : World) (a : Option Addr) (l : List O8) : Prop :=
  (0 < l.length → ∃ b off, a = some ⟨b, off, none⟩ ∧ ∀ i (h : i < l.length), w.cell? ⟨b, off + i * 3, none⟩ = some (.int .i64 l[i].k) ∧ w.cell? ⟨b, off + i * 3 + 1, none⟩ = some (.int .i64 l[i].v) ∧ w.cell? ⟨b, off + i * 3 + 2, none⟩ = some (.int .i64 l[i].h)) ∧ ∀ x ∈ l, O8Ok x
theorem O8s.cells {w wr : World} {a : Option Addr} {l : List O8} (h : O8s w a l) (hb : Below w.heap.size w wr) (k : Nat) (hk : k < l.length) :
    ∃ b off, a = some ⟨b, off, none⟩ ∧ wr.cell? ⟨b, off + k * 3, none⟩ = some (.int .i64 l[k].k) ∧ wr.cell? ⟨b, off + k * 3 + 1, none⟩ = some (.int .i64 l[k].v) ∧ wr.cell? ⟨b, off + k * 3 + 2, none⟩ = some (.int .i64 l[k].h) := by
  obtain ⟨b, off, rfl, hc⟩ := h.1 (by omega)
  obtain ⟨c0, c1, c2⟩ := hc k hk
  exact ⟨b, off, rfl, cell_next c0 _ hb, cell_next c1 _ hb, cell_next c2 _ hb⟩
section
variable {H : Type} {enc : TypeId × Value → H} {W : World} {spare : Nat → Bool} {held : Bool} {base : Nat}
theorem aops_open {a : Option Addr} {len cap : Nat} {d : DataW H} {p : List MemPlace} (h : DataW.Trod enc Try.prog W base spare held 39 (.slice a len cap) d p) :
    ∃ l, len = l.length ∧ O8s W a l ∧ l.length ≤ maxLen := by
  obtain ⟨fuel, hf⟩ := h
  rcases open_slice_fields Try.underlying39 Try.underlying42 (by kernel_rfl) (by kernel_rfl) hf with ⟨hcs, _⟩ | ⟨x, len', c, m, hcs, hl, hm, hmm, hi⟩
  · simp [Value.cells] at hcs
    obtain ⟨rfl, rfl, rfl⟩ := hcs
    exact ⟨[], rfl, ⟨fun h => by simp at h, fun x hx => by simp at hx⟩, by simp⟩
  · simp [Value.cells] at hcs
    obtain ⟨rfl, rfl, rfl⟩ := hcs
    obtain ⟨f, hF⟩ := choose_lt (α := O8) (n := len) (p := fun i q => O8Ok q ∧ W.cell? (x.add (i * 3 + 0)) = some (.int .i64 q.k) ∧ W.cell? (x.add (i * 3 + 1)) = some (.int .i64 q.v) ∧ W.cell? (x.add (i * 3 + 2)) = some (.int .i64 q.h)) (fun i hi' => by
      obtain ⟨n, hq⟩ := hi i (by omega)
      obtain ⟨v0, y0, c0, t0⟩ := hq 0 _ rfl
      obtain ⟨v1, y1, c1, t1⟩ := hq 1 _ rfl
      obtain ⟨v2, y2, c2, t2⟩ := hq 2 _ rfl
      obtain ⟨n0, e0, _, w0⟩ := DataW.trod_int Try.underlying3 t0
      obtain ⟨n1, e1, _, w1⟩ := DataW.trod_int Try.underlying3 t1
      obtain ⟨n2, e2, _, w2⟩ := DataW.trod_int Try.underlying3 t2
      simp only [List.cons.injEq, and_true] at e0 e1 e2
      subst e0 e1 e2
      exact ⟨⟨n0, n1, n2⟩, ⟨bounds_i64 w0, bounds_i64 w1, bounds_i64 w2⟩, c0, c1, c2⟩)
    refine ⟨(List.range len).map f, by simp, ⟨fun hp => ?_, fun y hy => ?_⟩, by simp; omega⟩
    · simp at hp
      obtain ⟨b, off, spot⟩ := x
      have hc0 := (hF 0 hp).2.1
      have hspot : spot = none := by simpa [Addr.add] using World.cell?_spot hc0
      subst hspot
      refine ⟨b, off, rfl, fun j hj => ?_⟩
      simp at hj
      obtain ⟨_, q0, q1, q2⟩ := hF j hj
      rw [add_none] at q0 q1 q2
      simp only [List.getElem_map, List.getElem_range]
      exact ⟨q0, by rw [Nat.add_assoc]; exact q1, by rw [Nat.add_assoc]; exact q2⟩
    · obtain ⟨i, hi', rfl⟩ := List.mem_map.1 hy
      exact (hF i (by simpa using hi')).1
end
end Go.Proofs.Ytcgjkgcafkcgoaa
