/- A sorted list with towers in memory. -/
import Derived.Test.YthpafhimmhacfaaSkPl
import Derived.Test.YthpafhimmhacfaaRow
import Derived.Test.YthpafhimmhacfaaSep
namespace Go.Proofs.Ythpafhimmhacfaa
open Go.RowKit
set_option linter.unusedVariables false
set_option linter.unusedSimpArgs false

section
variable {κ : Type}
def nxs (R : List (SE κ)) (n : Nat) : List Value := (List.range n).map fun h => Value.int .i64 ((fid R h : Nat) : Int)
theorem nxs_len (R : List (SE κ)) (n : Nat) : (nxs R n).length = n := by simp [nxs]
/-- at block p lies a list: v its row of nodes; T: the head and the others, in order -/
structure SK (NT LT : TypeId) (ek : κ → Value) (w : World) (B p : Nat) (v : Value) (T : List (SE κ)) : Prop where
  box : w.heap[p]? = some (.cells #[v] LT (0, 0))
  row : ∃ xs, w.ownsRow B NT 3 v T.length xs ∧ ∀ e ∈ T, xs[3 * e.id]? = some (ek e.key) ∧ xs[3 * e.id + 1]? = some e.val ∧ xs[3 * e.id + 2]? = some (.slice (some ⟨e.blk, 0, none⟩) e.ht e.ht)
  next : ∀ i (hi : i < T.length), w.ownsRow B 3 1 (.slice (some ⟨T[i].blk, 0, none⟩) T[i].ht T[i].ht) T[i].ht (nxs (T.drop (i + 1)) T[i].ht)
  apart : ∀ i j (hi : i < T.length) (hj : j < T.length), T[i].blk = T[j].blk → i = j
  ids : ∀ i j (hi : i < T.length) (hj : j < T.length), T[i].id = T[j].id → i = j
  idlt : ∀ e ∈ T, e.id < T.length
  head : ∃ e S, T = e :: S ∧ e.id = 0 ∧ e.ht = 12
  low : B ≤ p
theorem SK.below {NT LT : TypeId} {ek : κ → Value} {w w' : World} {B p : Nat} {v : Value} {T : List (SE κ)} (h : SK NT LT ek w B p v T) (hb : Below w.heap.size w w') : SK NT LT ek w' B p v T := by
  obtain ⟨xs, hr, hx⟩ := h.row
  exact ⟨(hb.block p (blk_lt h.box)).trans h.box, ⟨xs, row_past hr hb (Nat.le_refl _), hx⟩, fun i hi => row_past (h.next i hi) hb (Nat.le_refl _), h.apart, h.ids, h.idlt, h.head, h.low⟩
theorem cell_one {w : World} {p : Nat} {a : Value} {T : TypeId} (h : w.heap[p]? = some (.cells #[a] T (0, 0))) : w.cell? ⟨p, 0, none⟩ = some a ∧ w.frozen? ⟨p, 0, none⟩ = false := by
  refine ⟨?_, ?_⟩
  · rw [cell_of_row _ _ _ _ _ _ h]; rfl
  · simp [World.frozen?, h]
/-- what is read at node i -/
theorem SK.node {NT LT : TypeId} {ek : κ → Value} {w : World} {B p : Nat} {v : Value} {T : List (SE κ)} (h : SK NT LT ek w B p v T) (i : Nat) (hi : i < T.length) :
    ∃ g c, v = .slice (some ⟨g, 0, none⟩) T.length c ∧ T.length ≤ c ∧ c ≤ maxLen ∧ T[i].id < T.length ∧ w.cell? ⟨p, 0, none⟩ = some (.slice (some ⟨g, 0, none⟩) T.length c) ∧
      w.cell? ⟨g, T[i].id * 3, none⟩ = some (ek T[i].key) ∧ w.cell? ⟨g, T[i].id * 3 + 1, none⟩ = some T[i].val ∧ w.cell? ⟨g, T[i].id * 3 + 2, none⟩ = some (.slice (some ⟨T[i].blk, 0, none⟩) T[i].ht T[i].ht) ∧
      ∀ k, k < T[i].ht → w.cell? ⟨T[i].blk, k, none⟩ = some (.int .i64 (fid (T.drop (i + 1)) k : Nat)) := by
  obtain ⟨xs, hr, hx⟩ := h.row
  obtain ⟨ao, c, rfl, h1, h2, h3⟩ := row_shape hr
  obtain ⟨g, rfl, _, _⟩ := h3 (by omega)
  have hm := List.getElem_mem hi
  obtain ⟨x0, x1, x2⟩ := hx _ hm
  refine ⟨g, c, rfl, h1, h2, h.idlt _ hm, (cell_one h.box).1, ?_, ?_, ?_, fun k hk => ?_⟩
  · have := World.ownsRow.cells hr (g := g) rfl _ _ x0
    rw [add_none, Nat.zero_add, Nat.mul_comm] at this; exact this
  · have := World.ownsRow.cells hr (g := g) rfl _ _ x1
    rw [add_none, Nat.zero_add, Nat.mul_comm 3] at this; exact this
  · have := World.ownsRow.cells hr (g := g) rfl _ _ x2
    rw [add_none, Nat.zero_add, Nat.mul_comm 3] at this; exact this
  · have := World.ownsRow.cellAt (h.next i hi) k (by omega)
    rw [this]
    simp [nxs, hk]
end
end Go.Proofs.Ythpafhimmhacfaa
