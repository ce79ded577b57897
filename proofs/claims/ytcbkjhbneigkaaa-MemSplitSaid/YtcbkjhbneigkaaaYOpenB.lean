/- How a batch, an op that came in are read. -/
import Derived.Test.YtcbkjhbneigkaaaYOpen
import Derived.Test.YtcbkjhbneigkaaaYOpd
namespace Go.Proofs.Ytcbkjhbneigkaaa
open Go.ChangeShapes Go.WideShapes Go.ChangeAt Go.RowKit Go.Joins Go.Deep
set_option linter.unusedVariables false

section
variable {H : Type} {enc : TypeId × Value → H} {W : World} {spare : Nat → Bool} {held : Bool} {base : Nat}

instance : Inhabited OpD := ⟨⟨0, ⟨#[]⟩, ⟨#[]⟩⟩⟩
set_option maxRecDepth 100000 in
theorem ops_val {n0 : Nat} {v : Value} {y : DataW H × List MemPlace} (h : DataW.trod enc Try.prog W base spare held n0 30 [v] = some y) :
    ∃ a l cap, v = .slice a l.length cap ∧ OPs W a l ∧ l.length ≤ maxLen := by
  rcases open_slice_fields Try.underlying30 Try.underlying27 (by kernel_rfl) (by kernel_rfl) h with ⟨hcs, _⟩ | ⟨x, len, c, m, hcs, hl, hm, hmm, hi⟩
  · simp only [List.cons.injEq, and_true] at hcs
    subst hcs
    exact ⟨none, [], 0, rfl, ⟨fun h => by simp at h, fun x hx => by simp at hx⟩, by simp⟩
  · simp only [List.cons.injEq, and_true] at hcs
    subst hcs
    obtain ⟨f, hF⟩ := choose_lt (α := OpD) (n := len) (p := fun i q => OpOk q ∧ W.cell? (x.add (i * 3 + 0)) = some (.int .i64 q.kind) ∧ W.cell? (x.add (i * 3 + 1)) = some (.string q.key) ∧ W.cell? (x.add (i * 3 + 2)) = some (.string q.val)) (fun i hi' => by
      obtain ⟨n, hq⟩ := hi i (by omega)
      obtain ⟨v0, y0, c0, t0⟩ := hq 0 _ rfl
      obtain ⟨v1, y1, c1, t1⟩ := hq 1 _ rfl
      obtain ⟨v2, y2, c2, t2⟩ := hq 2 _ rfl
      obtain ⟨n0, e0, _, w0⟩ := DataW.trod_int Try.underlying3 t0
      obtain ⟨n1, e1, _, w1⟩ := DataW.trod_string Try.underlying9 t1
      obtain ⟨n2, e2, _, w2⟩ := DataW.trod_string Try.underlying9 t2
      simp only [List.cons.injEq, and_true] at e0 e1 e2
      subst e0 e1 e2
      exact ⟨⟨n0, n1, n2⟩, ⟨(bounds_i64 w0).1, (bounds_i64 w0).2, w1, w2⟩, c0, c1, c2⟩)
    refine ⟨some x, (List.range len).map f, c, by simp, ⟨fun hp => ?_, fun y hy => ?_⟩, by simp; omega⟩
    · simp at hp
      obtain ⟨b, off, spot⟩ := x
      have hc0 := (hF 0 hp).2.1
      have hspot : spot = none := by simpa [Addr.add] using World.cell?_spot hc0
      subst hspot
      refine ⟨b, off, rfl, fun j hj => ?_⟩
      simp at hj
      obtain ⟨_, q0, q1, q2⟩ := hF j hj
      rw [add_none] at q0 q1 q2
      simp only [List.getElem_map, List.getElem_range]
      exact ⟨q0, by rw [Nat.add_assoc]; exact q1, by rw [Nat.add_assoc]; exact q2⟩
    · obtain ⟨i, hi', rfl⟩ := List.mem_map.1 hy
      exact (hF i (by simpa using hi')).1

theorem cellsB : Try.prog.cellsOf 32 = 2 := by kernel_rfl
set_option maxRecDepth 100000 in
theorem batch_open {r : Reach} {b0 : Nat} {v : Value} {d : DataW H} {p : List MemPlace} (hv : Value.okWide Try.prog W r b0 32 v) (h : DataW.Trod enc Try.prog W base spare held 32 v d p) :
    ∃ (seq : Int) (a : Option Addr) (l : List OpD) (cap : Nat), v = .agg #[.int .i64 seq, .slice a l.length cap] ∧ OPs W a l ∧ l.length ≤ maxLen ∧ -9223372036854775808 ≤ seq ∧ seq ≤ 9223372036854775807 := by
  obtain ⟨v0, v1, y0, y1, n, rfl, _, _, e, f⟩ := open_agg2 Try.underlying32 (by kernel_rfl) cellsB hv h
  obtain ⟨s, es, _, ws⟩ := DataW.trod_int Try.underlying3 e
  obtain ⟨a, l, cap, rfl, ho, hl⟩ := ops_val f
  simp only [List.cons.injEq, and_true] at es
  subst es
  exact ⟨s, a, l, cap, rfl, ho, hl, (bounds_i64 ws).1, (bounds_i64 ws).2⟩
theorem cellsO : Try.prog.cellsOf 27 = 3 := by kernel_rfl
set_option maxRecDepth 100000 in
theorem op_open {r : Reach} {b0 : Nat} {v : Value} {d : DataW H} {p : List MemPlace} (hv : Value.okWide Try.prog W r b0 27 v) (h : DataW.Trod enc Try.prog W base spare held 27 v d p) :
    ∃ (x : OpD), v = .agg #[.int .i64 x.kind, .string x.key, .string x.val] ∧ OpOk x := by
  obtain ⟨v0, v1, v2, y0, y1, y2, n, rfl, _, _, e, f, g⟩ := open_agg3 Try.underlying27 (by kernel_rfl) cellsO hv h
  obtain ⟨n0, e0, _, w0⟩ := DataW.trod_int Try.underlying3 e
  obtain ⟨n1, e1, _, w1⟩ := DataW.trod_string Try.underlying9 f
  obtain ⟨n2, e2, _, w2⟩ := DataW.trod_string Try.underlying9 g
  simp only [List.cons.injEq, and_true] at e0 e1 e2
  subst e0 e1 e2
  exact ⟨⟨n0, n1, n2⟩, rfl, ⟨(bounds_i64 w0).1, (bounds_i64 w0).2, w1, w2⟩⟩
end
end Go.Proofs.Ytcbkjhbneigkaaa
