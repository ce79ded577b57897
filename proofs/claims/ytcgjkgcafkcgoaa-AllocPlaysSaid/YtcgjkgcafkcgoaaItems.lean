/- A list of tithebarnlaw02.Item that is read; the contract of small. -/
import Derived.Test.YtcgjkgcafkcgoaaSep
namespace Go.Proofs.Ytcgjkgcafkcgoaa
open Go.RowKit
set_option linter.unusedVariables false

structure ItemD where
  kind : Int
  n : Int
  v : Value
  b : List UInt8

/-- an Item, as it is read -/
def ItemOk (w : World) (x : ItemD) : Prop := RB w x.v x.b ∧ -9223372036854775808 ≤ x.kind ∧ x.kind ≤ 9223372036854775807 ∧ -9223372036854775808 ≤ x.n ∧ x.n ≤ 9223372036854775807 ∧ x.b.length ≤ maxLen

/-- a slice of Items -/
def ITs (w : World) (a : Option Addr) (l : List ItemD) : Prop :=
  (0 < l.length → ∃ b off, a = some ⟨b, off, none⟩ ∧ ∀ i (h : i < l.length), w.cell? ⟨b, off + i * 3, none⟩ = some (.int .i64 l[i].kind) ∧ w.cell? ⟨b, off + i * 3 + 1, none⟩ = some (.int .i64 l[i].n) ∧ w.cell? ⟨b, off + i * 3 + 2, none⟩ = some l[i].v) ∧
  ∀ x ∈ l, ItemOk w x

theorem ITs.below {w w' : World} {a : Option Addr} {l : List ItemD} (h : ITs w a l) (hb : Below w.heap.size w w') : ITs w' a l := by
  refine ⟨fun hl => ?_, fun x hx => ⟨(h.2 x hx).1.below hb, (h.2 x hx).2⟩⟩
  obtain ⟨b, off, rfl, hc⟩ := h.1 hl
  refine ⟨b, off, rfl, fun i hi => ?_⟩
  obtain ⟨h0, h1, h2⟩ := hc i hi
  exact ⟨cell_next h0 _ hb, cell_next h1 _ hb, cell_next h2 _ hb⟩

theorem ITs.cells {w wr : World} {a : Option Addr} {l : List ItemD} (h : ITs w a l) (hb : Below w.heap.size w wr) (k : Nat) (hk : k < l.length) :
    ∃ b off ao cc, a = some ⟨b, off, none⟩ ∧ wr.cell? ⟨b, off + k * 3, none⟩ = some (.int .i64 l[k].kind) ∧ wr.cell? ⟨b, off + k * 3 + 1, none⟩ = some (.int .i64 l[k].n) ∧ wr.cell? ⟨b, off + k * 3 + 2, none⟩ = some (.slice ao l[k].b.length cc) ∧ l[k].b.length ≤ maxLen := by
  obtain ⟨b, off, rfl, hc⟩ := h.1 (by omega)
  obtain ⟨c0, c1, c2⟩ := hc k hk
  obtain ⟨hrb, q0, q1, q2, q3, q4⟩ := h.2 _ (List.getElem_mem hk)
  obtain ⟨ao, cc, hv, _⟩ := hrb.shape
  rw [hv] at c2
  exact ⟨b, off, ao, cc, rfl, cell_next c0 _ hb, cell_next c1 _ hb, cell_next c2 _ hb, q4⟩

def smallB (l : List ItemD) : Bool := l.all (fun x => decide (x.b.length ≤ 500)) && decide (l.length ≤ 60)

end Go.Proofs.Ytcgjkgcafkcgoaa
