/- The heights of draws: skip.Height and the document's. -/
import Derived.Test.YtcbkjhbneigkaaaYBase
namespace Go.Proofs.Ytcbkjhbneigkaaa
open Go.RowKit
set_option linter.unusedVariables false

/-- how many pairs of bits at a number's end are both set; at most f -/
def hts : Nat → Nat → Nat
  | 0, _ => 0
  | f + 1, d => if d % 4 = 3 then 1 + hts f (d / 4) else 0
theorem hts_le : ∀ f d, hts f d ≤ f
  | 0, _ => Nat.le_refl _
  | f + 1, d => by unfold hts; have := hts_le f (d / 4); split <;> omega
/-- a draw's height -/
def heightOf (draw : Int) : Nat := 1 + hts 11 (draw % 18446744073709551616).toNat

theorem ret_i64h {a b : Int} (h : a = b) : Ending.returned (.int .i64 a) = .returned (.int .i64 b) := by rw [h]
theorem and_three (k : IntKind) (hk : k = .u64 ∨ k = .i64) (x : Int) : bits .and k x 3 = x % 4 := by
  have hb : (BitVec.ofInt 64 x &&& BitVec.ofInt 64 3).toNat = (x % 4).toNat := by
    rw [BitVec.toNat_and]
    have h3 : (BitVec.ofInt 64 3).toNat = 2 ^ 2 - 1 := by decide
    rw [h3, Nat.and_two_pow_sub_one_eq_mod, BitVec.toNat_ofInt]
    omega
  rcases hk with rfl | rfl
  · show IntKind.u64.wrap ((BitVec.ofInt 64 x &&& BitVec.ofInt 64 3).toNat : Int) = _
    rw [hb]
    simp only [IntKind.wrap, IntKind.bits, IntKind.signed]
    simp
    omega
  · show IntKind.i64.wrap ((BitVec.ofInt 64 x &&& BitVec.ofInt 64 3).toNat : Int) = _
    rw [hb, IntKind.wrap_i64]
    omega

set_option maxRecDepth 100000 in
set_option maxHeartbeats 2000000 in
theorem skipheight (draw : Int) (w : World) (h0 : -9223372036854775808 ≤ draw) (h1 : draw ≤ 9223372036854775807) :
    Calls Try.prog 26 #[.int .i64 draw] w fun e w' => e = .returned (.int .i64 (heightOf draw)) ∧ w = w' := by
  obtain ⟨D, hD⟩ : ∃ D : Nat, draw % 18446744073709551616 = (D : Int) := ⟨(draw % 18446744073709551616).toNat, by omega⟩
  have hDl : D < 18446744073709551616 := by omega
  have HF : Hid (heightOf draw = 1 + hts 11 D) := Lib.hid (by unfold heightOf; rw [hD, Int.toNat_natCast])
  have HD := Lib.hid hD
  clear hD
  go_enter Try.func26, Try.ntmps26
  go_wp2
  go_loop [3, 4] (fun h v => ∃ j d : Nat, j ≤ 11 ∧ h = .int .i64 (1 + j) ∧ v = .int .u64 d ∧ d < 18446744073709551616 ∧ hts 11 D = j + hts (11 - j) d) (fun h _ => 12 - (intOf h).toNat)
  case atStart => exact ⟨0, D, by omega, rfl, by rw [IntKind.wrap_u64, HD.out], hDl, by simp⟩
  case round =>
    obtain ⟨j, d, hj, rfl, rfl, hd, heq⟩ := hrel
    have Heq := Lib.hid heq
    clear heq
    have ha := and_three .u64 (.inl rfl) d
    by_cases h3 : d % 4 = 3
    · have h3' : ((d : Int) % 4 == 3) = true := by rw [beq_iff_eq]; omega
      by_cases hj2 : j < 11
      · have Hs : Hid (hts (11 - j) d = 1 + hts (11 - (j + 1)) (d / 4)) := Lib.hid (by
          rw [show 11 - j = (11 - (j + 1)) + 1 by omega, hts, if_pos h3])
        clear h3
        go_wp2
        go_round
        case rel => exact ⟨j + 1, d / 4, by omega, by go_num, by go_num, by omega, by rw [Heq.out, Hs.out]; omega⟩
        case measure => simp [intOf]; omega
      · obtain rfl : j = 11 := by omega
        clear h3
        go_wp2
        go_ret
        exact ⟨by rw [HF.out, Heq.out]; simp [hts], rfl⟩
    · have h3' : ((d : Int) % 4 == 3) = false := by rw [beq_eq_false_iff_ne]; omega
      have Hs : Hid (hts (11 - j) d = 0) := Lib.hid (by
        rcases Nat.eq_zero_or_pos (11 - j) with h | h
        · rw [h]; rfl
        · rw [show 11 - j = (11 - j - 1) + 1 by omega, hts, if_neg h3])
      clear h3
      go_wp2
      go_ret
      exact ⟨by rw [HF.out, Heq.out, Hs.out]; exact ret_i64h (by omega), rfl⟩

end Go.Proofs.Ytcbkjhbneigkaaa
