/- Contracts of the small functions of tithebarnlaw03: small and awake; of Seek, Sees and ref. -/
import Derived.Test.YtpnfpgjmpcnnnaaBytes
namespace Go.Proofs.Ytpnfpgjmpcnnnaa
open Go.RowKit
set_option linter.unusedVariables false

theorem small_yes (u : ByteArray) (s k : Int) (w : World) (h : u.size ≤ 300) :
    Calls Try.prog 10 #[.agg #[.string u, .int .i64 s, .int .i64 k]] w fun e w' => e = .returned (.bool true) ∧ Below w.heap.size w w' := by
  go_enter Try.func10, Try.ntmps10
  go_wp2
  go_ret
  exact ⟨by simp <;> omega, by (repeat first | exact Below.refl _ _ | refine Below.drew ?_ | refine Below.alloc ?_ (by simp <;> omega) _ | refine Below.setCell ?_ (by simp <;> omega) _)⟩
theorem small_no (u : ByteArray) (s k : Int) (w : World) (hu : u.size ≤ maxLen) (h : 300 < u.size) :
    Calls Try.prog 10 #[.agg #[.string u, .int .i64 s, .int .i64 k]] w fun e w' => e = .returned (.bool false) ∧ Below w.heap.size w w' := by
  unfold maxLen at hu
  go_enter Try.func10, Try.ntmps10
  go_wp2
  go_ret
  exact ⟨by simp <;> omega, by (repeat first | exact Below.refl _ _ | refine Below.drew ?_ | refine Below.alloc ?_ (by simp <;> omega) _ | refine Below.setCell ?_ (by simp <;> omega) _)⟩

theorem awakeKey : keyBytes [97] 1 2 = [97, 0, 1, 0, 255, 255, 255, 255, 255, 253] := by decide
theorem awakeCmp : kcmp ⟨#[97]⟩ 5 1 ⟨#[97]⟩ 4 3 = -1 := by decide

set_option maxHeartbeats 1000000 in
theorem awake_any (w : World) :
    Calls Try.prog 11 #[] w fun e w' => e = .returned (.bool true) ∧ Below w.heap.size w w' := by
  go_enter Try.func11, Try.ntmps11
  go_wp2_with (first
    | (go_at_call 17; refine (keybytes ⟨#[97]⟩ 1 2 _ rfl).mono ?_; rintro e w1 ⟨v, rfl, hob, hb1⟩; have hob2 : OB w1 w.heap.size v [97, 0, 1, 0, 255, 255, 255, 255, 255, 253] := hob; clear hob; obtain ⟨g, cap, rfl, hg1, hg2, hcap, hcell⟩ := hob2.form (by decide); have c0 : w1.cell? ⟨g, 0, none⟩ = some (.int .u8 97) := hcell 0 (by decide); have c9 : w1.cell? ⟨g, 9, none⟩ = some (.int .u8 253) := hcell 9 (by decide); clear hob2 hcell)
    | (go_at_call 12; refine (keycmp ⟨#[97]⟩ ⟨#[97]⟩ 5 4 1 3 _).mono ?_; rintro e w2 ⟨rfl, hb2⟩; rw [awakeCmp]))
  go_ret
  exact ⟨rfl, hb1.trans (hb2.mono hb1.size)⟩
end Go.Proofs.Ytpnfpgjmpcnnnaa
