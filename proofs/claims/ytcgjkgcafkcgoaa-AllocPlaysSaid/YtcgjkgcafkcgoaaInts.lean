/- A list of ints, and one of byte slices, that are read. -/
import Derived.Test.YtcgjkgcafkcgoaaSep
namespace Go.Proofs.Ytcgjkgcafkcgoaa
open Go.RowKit
set_option linter.unusedVariables false

/-- a slice of ints -/
def IR (w : World) (a : Option Addr) (l : List Int) : Prop :=
  (0 < l.length → ∃ b off, a = some ⟨b, off, none⟩ ∧ ∀ i (h : i < l.length), w.cell? ⟨b, off + i, none⟩ = some (.int .i64 l[i])) ∧ ∀ x ∈ l, -9223372036854775808 ≤ x ∧ x ≤ 9223372036854775807
theorem IR.below {w w' : World} {a : Option Addr} {l : List Int} (h : IR w a l) (hb : Below w.heap.size w w') : IR w' a l := by
  refine ⟨fun hl => ?_, h.2⟩
  obtain ⟨b, off, rfl, hc⟩ := h.1 hl
  exact ⟨b, off, rfl, fun i hi => cell_next (hc i hi) _ hb⟩
theorem IR.cell {w wr : World} {a : Option Addr} {l : List Int} (h : IR w a l) (hb : Below w.heap.size w wr) (k : Nat) (hk : k < l.length) :
    ∃ b off, a = some ⟨b, off, none⟩ ∧ wr.cell? ⟨b, off + k, none⟩ = some (.int .i64 l[k]) ∧ -9223372036854775808 ≤ l[k] ∧ l[k] ≤ 9223372036854775807 := by
  obtain ⟨b, off, rfl, hc⟩ := h.1 (by omega)
  exact ⟨b, off, rfl, cell_next (hc k hk) _ hb, h.2 _ (List.getElem_mem hk)⟩

/-- a slice of byte slices -/
def BSs (w : World) (a : Option Addr) (l : List (Value × List UInt8)) : Prop :=
  (0 < l.length → ∃ b off, a = some ⟨b, off, none⟩ ∧ ∀ i (h : i < l.length), w.cell? ⟨b, off + i, none⟩ = some l[i].1) ∧ ∀ x ∈ l, RB w x.1 x.2 ∧ x.2.length ≤ maxLen
theorem BSs.below {w w' : World} {a : Option Addr} {l : List (Value × List UInt8)} (h : BSs w a l) (hb : Below w.heap.size w w') : BSs w' a l := by
  refine ⟨fun hl => ?_, fun x hx => ⟨(h.2 x hx).1.below hb, (h.2 x hx).2⟩⟩
  obtain ⟨b, off, rfl, hc⟩ := h.1 hl
  exact ⟨b, off, rfl, fun i hi => cell_next (hc i hi) _ hb⟩
theorem BSs.cell {w wr : World} {a : Option Addr} {l : List (Value × List UInt8)} (h : BSs w a l) (hb : Below w.heap.size w wr) (k : Nat) (hk : k < l.length) :
    ∃ b off ao cc, a = some ⟨b, off, none⟩ ∧ l[k].1 = .slice ao l[k].2.length cc ∧ wr.cell? ⟨b, off + k, none⟩ = some (.slice ao l[k].2.length cc) ∧ RB wr (.slice ao l[k].2.length cc) l[k].2 ∧ l[k].2.length ≤ maxLen := by
  obtain ⟨b, off, rfl, hc⟩ := h.1 (by omega)
  obtain ⟨hr, hm⟩ := h.2 _ (List.getElem_mem hk)
  obtain ⟨ao, cc, hv, _⟩ := hr.shape
  have hc := hc k hk
  rw [hv] at hr hc
  exact ⟨b, off, ao, cc, rfl, hv, cell_next hc _ hb, hr.below hb, hm⟩
end Go.Proofs.Ytcgjkgcafkcgoaa
