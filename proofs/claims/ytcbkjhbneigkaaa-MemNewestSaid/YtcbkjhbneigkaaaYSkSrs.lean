/- Strings that are read: a list that came in, a row of keys. -/
import Derived.Test.YtcbkjhbneigkaaaYOpen
import Derived.Test.YtcbkjhbneigkaaaYRow
namespace Go.Proofs.Ytcbkjhbneigkaaa
open Go.ChangeShapes Go.WideShapes Go.ChangeAt Go.RowKit Go.Joins Go.Deep
set_option linter.unusedVariables false

/-- a slice of strings -/
def SR5 (w : World) (a : Option Addr) (l : List ByteArray) : Prop :=
  (0 < l.length → ∃ b off, a = some ⟨b, off, none⟩ ∧ ∀ i (h : i < l.length), w.cell? ⟨b, off + i, none⟩ = some (.string l[i])) ∧ ∀ x ∈ l, x.size ≤ maxLen
theorem SR5.below {w w' : World} {a : Option Addr} {l : List ByteArray} (h : SR5 w a l) (hb : Below w.heap.size w w') : SR5 w' a l := by
  refine ⟨fun hl => ?_, h.2⟩
  obtain ⟨b, off, rfl, hc⟩ := h.1 hl
  exact ⟨b, off, rfl, fun i hi => cell_next (hc i hi) _ hb⟩
theorem SR5.cell {w wr : World} {a : Option Addr} {l : List ByteArray} (h : SR5 w a l) (hb : Below w.heap.size w wr) (k : Nat) (hk : k < l.length) :
    ∃ b off, a = some ⟨b, off, none⟩ ∧ wr.cell? ⟨b, off + k, none⟩ = some (.string l[k]) ∧ l[k].size ≤ maxLen := by
  obtain ⟨b, off, rfl, hc⟩ := h.1 (by omega)
  exact ⟨b, off, rfl, cell_next (hc k hk) _ hb, h.2 _ (List.getElem_mem hk)⟩
/-- a row of strings, in a block of B or later -/
def KRS (w : World) (B : Nat) (a : Option Addr) (l : List ByteArray) : Prop :=
  0 < l.length → ∃ b off, a = some ⟨b, off, none⟩ ∧ B ≤ b ∧ ∀ i (h : i < l.length), w.cell? ⟨b, off + i, none⟩ = some (.string l[i])
theorem KRS.below {w w' : World} {B : Nat} {a : Option Addr} {l : List ByteArray} (h : KRS w B a l) (hb : Below w.heap.size w w') : KRS w' B a l := fun hl => by
  obtain ⟨b, off, rfl, hB, hc⟩ := h hl
  exact ⟨b, off, rfl, hB, fun i hi => cell_next (hc i hi) _ hb⟩
theorem KRS.cell {w wr : World} {B : Nat} {a : Option Addr} {l : List ByteArray} (h : KRS w B a l) (hb : Below w.heap.size w wr) (k : Nat) (hk : k < l.length) :
    ∃ b off, a = some ⟨b, off, none⟩ ∧ wr.cell? ⟨b, off + k, none⟩ = some (.string l[k]) := by
  obtain ⟨b, off, rfl, _, hc⟩ := h (by omega)
  exact ⟨b, off, rfl, cell_next (hc k hk) _ hb⟩
theorem keys_krs {w : World} {B C : Nat} {u : Value} {n : Nat} {l : List ByteArray} (h : w.ownsRow B 9 1 u n (l.map Value.string)) (hn : n = l.length) (hC : C ≤ B) : ∃ a c, u = .slice a l.length c ∧ l.length ≤ c ∧ KRS w C a l := by
  subst hn
  obtain ⟨ao, c, rfl, hlc, _, hs⟩ := row_shape h
  refine ⟨ao, c, rfl, hlc, fun hl => ?_⟩
  obtain ⟨g, rfl, hg, _⟩ := hs hl
  refine ⟨g, 0, rfl, by omega, fun i hi => ?_⟩
  rw [Nat.zero_add, World.ownsRow.cellAt h _ (by omega)]
  simp [hi]
section
variable {H : Type} {enc : TypeId × Value → H} {W : World} {spare : Nat → Bool} {held : Bool} {base : Nat}
instance : Inhabited ByteArray := ⟨⟨#[]⟩⟩
theorem strs5_open {a : Option Addr} {len cap : Nat} {d : DataW H} {p : List MemPlace} (h : DataW.Trod enc Try.prog W base spare held 22 (.slice a len cap) d p) :
    ∃ l, len = l.length ∧ SR5 W a l ∧ l.length ≤ maxLen := by
  obtain ⟨fuel, hf⟩ := h
  rcases open_slice1 Try.underlying22 (by kernel_rfl) hf with ⟨hcs, _⟩ | ⟨x, len', c, m, n, V, D, Pl, hcs, _, hl, hm, hmm, _, hi⟩
  · simp [Value.cells] at hcs
    obtain ⟨rfl, rfl, rfl⟩ := hcs
    exact ⟨[], rfl, ⟨fun h => by simp at h, fun x hx => by simp at hx⟩, by simp⟩
  · simp [Value.cells] at hcs
    obtain ⟨rfl, rfl, rfl⟩ := hcs
    have hl2 : len ≤ m := by rw [hmm]; split <;> omega
    obtain ⟨f, hF⟩ := choose_lt (α := ByteArray) (n := len) (p := fun i u => V i = .string u ∧ u.size ≤ maxLen) (fun i hi' => by
      obtain ⟨n0, e0, _, w0⟩ := DataW.trod_string Try.underlying9 (hi i (by omega)).2
      simp only [List.cons.injEq, and_true] at e0
      exact ⟨n0, e0, w0⟩)
    refine ⟨(List.range len).map f, by simp, ⟨fun hp => ?_, fun y hy => ?_⟩, by simp; omega⟩
    · simp at hp
      obtain ⟨b, off, spot⟩ := x
      have hc0 := (hi 0 (by omega)).1
      have hspot : spot = none := by simpa [Addr.add] using World.cell?_spot hc0
      subst hspot
      refine ⟨b, off, rfl, fun j hj => ?_⟩
      simp at hj
      rw [← add_none, (hi j (by omega)).1, (hF j hj).1]
      simp
    · obtain ⟨i, hi', rfl⟩ := List.mem_map.1 hy
      exact (hF i (by simpa using hi')).2
end
end Go.Proofs.Ytcbkjhbneigkaaa
