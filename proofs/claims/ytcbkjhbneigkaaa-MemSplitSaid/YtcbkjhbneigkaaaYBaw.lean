/- tithebarnlaw10.awake; ikey.Key.Check at ch. 10's place. -/
import Derived.Test.YtcbkjhbneigkaaaYBat3
namespace Go.Proofs.Ytcbkjhbneigkaaa
open Go.RowKit
set_option linter.unusedVariables false

def lit10 : List OpD := [⟨1, ⟨#[97]⟩, ⟨#[120]⟩⟩, ⟨2, ⟨#[98]⟩, ⟨#[]⟩⟩]
theorem lit_right : batRight 5 lit10 = true := by decide +kernel
theorem lit_len : (batB 5 lit10).length = 10 := by decide +kernel
theorem lit_size : batSize 5 lit10 = 10 := by decide +kernel
theorem lit_last : batLast 5 lit10 = 6 := by decide +kernel
theorem lit_ops {w : World} {b : Nat} (c0 : w.cell? ⟨b, 0, none⟩ = some (.int .i64 1)) (c1 : w.cell? ⟨b, 1, none⟩ = some (.string ⟨#[97]⟩)) (c2 : w.cell? ⟨b, 2, none⟩ = some (.string ⟨#[120]⟩))
    (c3 : w.cell? ⟨b, 3, none⟩ = some (.int .i64 2)) (c4 : w.cell? ⟨b, 4, none⟩ = some (.string ⟨#[98]⟩)) (c5 : w.cell? ⟨b, 5, none⟩ = some (.string ⟨#[]⟩)) : OPs w (some ⟨b, 0, none⟩) lit10 := by
  refine ⟨fun _ => ⟨b, 0, rfl, fun i hi => ?_⟩, fun x hx => ?_⟩
  · match i, hi with
    | 0, _ => exact ⟨c0, c1, c2⟩
    | 1, _ => exact ⟨c3, c4, c5⟩
  · simp only [lit10, List.mem_cons, List.not_mem_nil, or_false] at hx
    rcases hx with rfl | rfl <;> exact ⟨by decide, by decide, by decide, by decide⟩

set_option maxHeartbeats 1000000 in
theorem keycheck_ok (u : ByteArray) (s k : Int) (w : World) (h1 : 1 ≤ u.size) (h2 : u.size ≤ 64) (h3 : 0 ≤ s) (h4 : s ≤ 1099511627776) (h5 : 1 ≤ k) (h6 : k ≤ 3) :
    Calls Try.prog 45 #[.agg #[.string u, .int .i64 s, .int .i64 k]] w fun e w' => e = .returned (.int .i64 0) ∧ Below w.heap.size w w' := by
  go_enter Try.func45, Try.ntmps45
  go_wp2
  go_ret
  exact ⟨rfl, by (repeat first | exact Below.refl _ _ | refine Below.drew ?_ | refine Below.alloc ?_ (by simp <;> omega) _ | refine Below.setCell ?_ (by simp <;> omega) _)⟩
end Go.Proofs.Ytcbkjhbneigkaaa
