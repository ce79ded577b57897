/- Chapter 11: how the arguments of the statements are read. -/
import Derived.Test.YtcbkjhbneigkaaaYOpenB
import Derived.Test.YtcbkjhbneigkaaaYMw
namespace Go.Proofs.Ytcbkjhbneigkaaa
open Go.ChangeShapes Go.WideShapes Go.ChangeAt Go.RowKit Go.Joins Go.Deep
set_option linter.unusedVariables false

section
variable {H : Type} {enc : TypeId × Value → H} {W : World} {spare : Nat → Bool} {held : Bool} {base : Nat}

instance : Inhabited BatD := ⟨⟨0, none, [], 0⟩⟩
set_option maxRecDepth 100000 in
theorem bats_val {n0 : Nat} {v : Value} {y : DataW H × List MemPlace} (h : DataW.trod enc Try.prog W base spare held n0 40 [v] = some y) :
    ∃ a l cap, v = .slice a (l : List BatD).length cap ∧ BTs W a l ∧ l.length ≤ maxLen := by
  rcases open_slice_fields Try.underlying40 Try.underlying32 (by kernel_rfl) (by kernel_rfl) h with ⟨hcs, _⟩ | ⟨x, len, c, m, hcs, hl, hm, hmm, hi⟩
  · simp only [List.cons.injEq, and_true] at hcs
    subst hcs
    exact ⟨none, [], 0, rfl, ⟨fun h => by simp at h, fun x hx => by simp at hx⟩, by simp⟩
  · simp only [List.cons.injEq, and_true] at hcs
    subst hcs
    obtain ⟨f, hF⟩ := choose_lt (α := BatD) (n := len) (p := fun i q => (OPs W q.a q.L ∧ q.L.length ≤ maxLen ∧ -9223372036854775808 ≤ q.q ∧ q.q ≤ 9223372036854775807) ∧ W.cell? (x.add (i * 2 + 0)) = some (.int .i64 q.q) ∧ W.cell? (x.add (i * 2 + 1)) = some (.slice q.a q.L.length q.cap)) (fun i hi' => by
      obtain ⟨n, hq⟩ := hi i (by omega)
      obtain ⟨v0, y0, c0, t0⟩ := hq 0 _ rfl
      obtain ⟨v1, y1, c1, t1⟩ := hq 1 _ rfl
      obtain ⟨n0, e0, _, w0⟩ := DataW.trod_int Try.underlying3 t0
      obtain ⟨a1, l1, cap1, rfl, ho, hl1⟩ := ops_val t1
      simp only [List.cons.injEq, and_true] at e0
      subst e0
      exact ⟨⟨n0, a1, l1, cap1⟩, ⟨ho, hl1, (bounds_i64 w0).1, (bounds_i64 w0).2⟩, c0, c1⟩)
    refine ⟨some x, (List.range len).map f, c, by simp, ⟨fun hp => ?_, fun y hy => ?_⟩, by simp; omega⟩
    · simp at hp
      obtain ⟨b, off, spot⟩ := x
      have hc0 := (hF 0 hp).2.1
      have hspot : spot = none := by simpa [Addr.add] using World.cell?_spot hc0
      subst hspot
      refine ⟨b, off, rfl, fun j hj => ?_⟩
      simp at hj
      obtain ⟨_, q0, q1⟩ := hF j hj
      rw [add_none] at q0 q1
      simp only [List.getElem_map, List.getElem_range]
      exact ⟨q0, by rw [Nat.add_assoc]; exact q1⟩
    · obtain ⟨i, hi', rfl⟩ := List.mem_map.1 hy
      exact (hF i (by simpa using hi')).1
theorem bats_open {a : Option Addr} {len cap : Nat} {d : DataW H} {p : List MemPlace} (h : DataW.Trod enc Try.prog W base spare held 40 (.slice a len cap) d p) :
    ∃ l : List BatD, len = l.length ∧ BTs W a l ∧ l.length ≤ maxLen := by
  obtain ⟨fuel, hf⟩ := h
  have hf2 : DataW.trod enc Try.prog W base spare held fuel 40 [.slice a len cap] = some (d, p) := by simpa [Value.cells] using hf
  obtain ⟨a', l, c', e, ho, hl⟩ := bats_val hf2
  simp only [Value.slice.injEq] at e
  obtain ⟨rfl, rfl, rfl⟩ := e
  exact ⟨l, rfl, ho, hl⟩
set_option maxRecDepth 100000 in
theorem bats_open_cap {a : Option Addr} {len cap : Nat} {d : DataW H} {p : List MemPlace} (h : DataW.Trod enc Try.prog W base spare held 40 (.slice a len cap) d p) :
    ∃ l : List BatD, len = l.length ∧ BTs W a l ∧ (l.length ≤ maxLen ∧ ((a = none ∧ l = [] ∧ cap = 0) ∨ ∃ x, a = some x ∧ l.length ≤ cap ∧ cap ≤ maxLen)) := by
  obtain ⟨l, rfl, hb, hl⟩ := bats_open h
  refine ⟨l, rfl, hb, hl, ?_⟩
  obtain ⟨fuel, hf⟩ := h
  have hf2 : DataW.trod enc Try.prog W base spare held fuel 40 [.slice a l.length cap] = some (d, p) := by simpa [Value.cells] using hf
  rcases open_slice_fields Try.underlying40 Try.underlying32 (by kernel_rfl) (by kernel_rfl) hf2 with ⟨hcs, _⟩ | ⟨x, len, c, m, hcs, hl, hm, hmm, hi⟩
  · simp only [List.cons.injEq, and_true, Value.slice.injEq] at hcs
    obtain ⟨rfl, h2, rfl⟩ := hcs
    exact .inl ⟨rfl, List.eq_nil_of_length_eq_zero h2, rfl⟩
  · simp only [List.cons.injEq, and_true, Value.slice.injEq] at hcs
    obtain ⟨rfl, rfl, rfl⟩ := hcs
    exact .inr ⟨x, rfl, hl, hm⟩
theorem ivals11 {n : Nat} {v : Value} {y : DataW H × List MemPlace} (h : DataW.trod enc Try.prog W base spare held n 51 [v] = some y) : ∃ a l c, v = .slice a (l : List Int).length c ∧ IR W a l ∧ l.length ≤ maxLen := by
  have key : ∀ a len cap, v = .slice a len cap → ∃ a l c, v = .slice a (l : List Int).length c ∧ IR W a l ∧ l.length ≤ maxLen := fun a len cap e => by
    subst e
    have h2 : DataW.Trod enc Try.prog W base spare held 51 (.slice a len cap) y.1 y.2 := ⟨n, by simpa [Value.cells] using h⟩
    obtain ⟨l, rfl, hr, hm⟩ := ints_open h2
    exact ⟨a, l, cap, rfl, hr, hm⟩
  rcases DataW.trod_slice Try.underlying51 h with ⟨h1, _⟩ | ⟨a, len, cap, elems, rest, m, _, h1, _⟩
  · simp only [List.cons.injEq, and_true] at h1
    exact key _ _ _ h1
  · simp only [List.cons.injEq, and_true] at h1
    exact key _ _ _ h1
theorem cellsFl : Try.prog.cellsOf 56 = 4 := by kernel_rfl
set_option maxRecDepth 100000 in
theorem filled_open {r : Reach} {b0 : Nat} {v : Value} {d : DataW H} {p : List MemPlace} (hv : Value.okWide Try.prog W r b0 56 v) (h : DataW.Trod enc Try.prog W base spare held 56 v d p) :
    ∃ (a : Option Addr) (l : List BatD) (cap : Nat) (da : Option Addr) (D : List Int) (dc : Nat) (u : ByteArray) (at' : Int), v = .agg #[.slice a l.length cap, .slice da D.length dc, .string u, .int .i64 at'] ∧ BTs W a l ∧ l.length ≤ maxLen ∧ IR W da D ∧ D.length ≤ maxLen ∧ u.size ≤ maxLen ∧ -9223372036854775808 ≤ at' ∧ at' ≤ 9223372036854775807 := by
  obtain ⟨v0, v1, v2, v3, y0, y1, y2, y3, n, rfl, _, _, e, f, g, i⟩ := open_agg4 Try.underlying56 (by kernel_rfl) cellsFl hv h
  obtain ⟨a, l, cap, rfl, ho, hl⟩ := bats_val e
  obtain ⟨da, D, dc, rfl, hd, hdl⟩ := ivals11 f
  obtain ⟨u, eu, _, wu⟩ := DataW.trod_string Try.underlying9 g
  obtain ⟨n2, e2, _, w2⟩ := DataW.trod_int Try.underlying3 i
  simp only [List.cons.injEq, and_true] at eu e2
  subst eu e2
  exact ⟨a, l, cap, da, D, dc, u, n2, rfl, ho, hl, hd, hdl, wu, (bounds_i64 w2).1, (bounds_i64 w2).2⟩
end
end Go.Proofs.Ytcbkjhbneigkaaa
