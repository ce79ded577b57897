/- A list of tithebarnlaw02.Item that is read; the contract of small. -/
import Derived.Test.YtpdkekpdahefgaaSep
namespace Go.Proofs.Ytpdkekpdahefgaa
open Go.RowKit
set_option linter.unusedVariables false

structure ItemD where
  kind : Int
  n : Int
  v : Value
  b : List UInt8

/-- an Item, as it is read -/
def ItemOk (w : World) (x : ItemD) : Prop := RB w x.v x.b ∧ -9223372036854775808 ≤ x.kind ∧ x.kind ≤ 9223372036854775807 ∧ -9223372036854775808 ≤ x.n ∧ x.n ≤ 9223372036854775807 ∧ x.b.length ≤ maxLen

/-- a slice of Items -/
def ITs (w : World) (a : Option Addr) (l : List ItemD) : Prop :=
  (0 < l.length → ∃ b off, a = some ⟨b, off, none⟩ ∧ ∀ i (h : i < l.length), w.cell? ⟨b, off + i * 3, none⟩ = some (.int .i64 l[i].kind) ∧ w.cell? ⟨b, off + i * 3 + 1, none⟩ = some (.int .i64 l[i].n) ∧ w.cell? ⟨b, off + i * 3 + 2, none⟩ = some l[i].v) ∧
  ∀ x ∈ l, ItemOk w x

theorem ITs.below {w w' : World} {a : Option Addr} {l : List ItemD} (h : ITs w a l) (hb : Below w.heap.size w w') : ITs w' a l := by
  refine ⟨fun hl => ?_, fun x hx => ⟨(h.2 x hx).1.below hb, (h.2 x hx).2⟩⟩
  obtain ⟨b, off, rfl, hc⟩ := h.1 hl
  refine ⟨b, off, rfl, fun i hi => ?_⟩
  obtain ⟨h0, h1, h2⟩ := hc i hi
  exact ⟨cell_next h0 _ hb, cell_next h1 _ hb, cell_next h2 _ hb⟩

theorem ITs.cells {w wr : World} {a : Option Addr} {l : List ItemD} (h : ITs w a l) (hb : Below w.heap.size w wr) (k : Nat) (hk : k < l.length) :
    ∃ b off ao cc, a = some ⟨b, off, none⟩ ∧ wr.cell? ⟨b, off + k * 3, none⟩ = some (.int .i64 l[k].kind) ∧ wr.cell? ⟨b, off + k * 3 + 1, none⟩ = some (.int .i64 l[k].n) ∧ wr.cell? ⟨b, off + k * 3 + 2, none⟩ = some (.slice ao l[k].b.length cc) ∧ l[k].b.length ≤ maxLen := by
  obtain ⟨b, off, rfl, hc⟩ := h.1 (by omega)
  obtain ⟨c0, c1, c2⟩ := hc k hk
  obtain ⟨hrb, q0, q1, q2, q3, q4⟩ := h.2 _ (List.getElem_mem hk)
  obtain ⟨ao, cc, hv, _⟩ := hrb.shape
  rw [hv] at c2
  exact ⟨b, off, ao, cc, rfl, cell_next c0 _ hb, cell_next c1 _ hb, cell_next c2 _ hb, q4⟩

def smallB (l : List ItemD) : Bool := l.all (fun x => decide (x.b.length ≤ 500)) && decide (l.length ≤ 60)

set_option maxRecDepth 100000 in
set_option maxHeartbeats 2000000 in
theorem small_any {w : World} {a : Option Addr} {c : Nat} {l : List ItemD} (h : ITs w a l) (hl : l.length ≤ maxLen) :
    Calls Try.prog 23 #[.slice a l.length c] w fun e w' => e = .returned (.bool (smallB l)) ∧ Below w.heap.size w w' := by
  unfold maxLen at hl
  have H := Lib.hid h
  clear h
  go_enter Try.func23, Try.ntmps23
  go_wp2
  go_loopw [7] (fun i wr => ∃ k : Nat, k ≤ l.length ∧ i = .int .i64 k ∧ (∀ (j : Nat) (hj : j < l.length), j < k → (l[j]).b.length ≤ 500) ∧ Below w.heap.size w wr) (fun i _ => l.length - (intOf i).toNat)
  case atStart => exact ⟨0, Nat.zero_le _, rfl, fun j hj hk => by omega, Below.refl _ _⟩
  case round =>
    obtain ⟨k, hk, rfl, hall, hb⟩ := hrel
    have Hall := Lib.hid hall
    have hz := hb.size
    clear hall
    by_cases hlt : k < l.length
    · obtain ⟨b, off, ao, cc, rfl, d0, d1, d2, q4⟩ := ITs.cells H.out hb k hlt
      unfold maxLen at q4
      by_cases h5 : (l[k]).b.length ≤ 500
      · have Hx : Hid (∀ (j : Nat) (hj : j < l.length), j < k + 1 → (l[j]).b.length ≤ 500) := Lib.hid fun j hj hjk => by
          by_cases e : j = k
          · subst e; exact h5
          · exact Hall.out j hj (by omega)
        generalize l[k] = x at *
        go_wp2
        go_roundw
        case rel => exact ⟨k + 1, by omega, by go_num, Hx.out, hb.alloc hz _⟩
        case measure => simp [intOf]; omega
      · have Hx : Hid (smallB l = false) := Lib.hid (by
          unfold smallB
          rw [Bool.and_eq_false_iff]; left
          rw [List.all_eq_false]
          exact ⟨_, List.getElem_mem hlt, by simp; omega⟩)
        generalize l[k] = x at *
        go_wp2
        go_ret
        exact ⟨by rw [Hx.out]; rfl, hb.alloc hz _⟩
    · have Hx : Hid (smallB l = decide ((l.length : Int) ≤ 60)) := Lib.hid (by
        unfold smallB
        have h1 : (l.all fun x => decide (x.b.length ≤ 500)) = true := by
          rw [List.all_eq_true]
          intro x hx
          obtain ⟨j, hj, rfl⟩ := List.getElem_of_mem hx
          exact decide_eq_true (Hall.out j hj (by omega))
        rw [h1, Bool.true_and]
        exact decide_eq_decide.2 (by omega))
      go_wp2
      go_ret
      exact ⟨by rw [Hx.out]; rfl, hb⟩
end Go.Proofs.Ytpdkekpdahefgaa
