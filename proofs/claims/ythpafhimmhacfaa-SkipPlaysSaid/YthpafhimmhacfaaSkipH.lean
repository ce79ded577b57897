/- The heights of draws: skip.Height and the document's. -/
import Derived.Test.YthpafhimmhacfaaBase
namespace Go.Proofs.Ythpafhimmhacfaa
open Go.RowKit
set_option linter.unusedVariables false

/-- how many pairs of bits at a number's end are both set; at most f -/
def hts : Nat → Nat → Nat
  | 0, _ => 0
  | f + 1, d => if d % 4 = 3 then 1 + hts f (d / 4) else 0
theorem hts_le : ∀ f d, hts f d ≤ f
  | 0, _ => Nat.le_refl _
  | f + 1, d => by unfold hts; have := hts_le f (d / 4); split <;> omega
/-- a draw's height -/
def heightOf (draw : Int) : Nat := 1 + hts 11 (draw % 18446744073709551616).toNat

theorem ret_i64 {a b : Int} (h : a = b) : Ending.returned (.int .i64 a) = .returned (.int .i64 b) := by rw [h]
theorem and_three (k : IntKind) (hk : k = .u64 ∨ k = .i64) (x : Int) : bits .and k x 3 = x % 4 := by
  have hb : (BitVec.ofInt 64 x &&& BitVec.ofInt 64 3).toNat = (x % 4).toNat := by
    rw [BitVec.toNat_and]
    have h3 : (BitVec.ofInt 64 3).toNat = 2 ^ 2 - 1 := by decide
    rw [h3, Nat.and_two_pow_sub_one_eq_mod, BitVec.toNat_ofInt]
    omega
  rcases hk with rfl | rfl
  · show IntKind.u64.wrap ((BitVec.ofInt 64 x &&& BitVec.ofInt 64 3).toNat : Int) = _
    rw [hb]
    simp only [IntKind.wrap, IntKind.bits, IntKind.signed]
    simp
    omega
  · show IntKind.i64.wrap ((BitVec.ofInt 64 x &&& BitVec.ofInt 64 3).toNat : Int) = _
    rw [hb, IntKind.wrap_i64]
    omega

set_option maxRecDepth 100000 in
set_option maxHeartbeats 2000000 in
theorem skipheight (draw : Int) (w : World) (h0 : -9223372036854775808 ≤ draw) (h1 : draw ≤ 9223372036854775807) :
    Calls Try.prog 9 #[.int .i64 draw] w fun e w' => e = .returned (.int .i64 (heightOf draw)) ∧ w = w' := by
  obtain ⟨D, hD⟩ : ∃ D : Nat, draw % 18446744073709551616 = (D : Int) := ⟨(draw % 18446744073709551616).toNat, by omega⟩
  have hDl : D < 18446744073709551616 := by omega
  have HF : Hid (heightOf draw = 1 + hts 11 D) := Lib.hid (by unfold heightOf; rw [hD, Int.toNat_natCast])
  have HD := Lib.hid hD
  clear hD
  go_enter Try.func9, Try.ntmps9
  go_wp2
  go_loop [3, 4] (fun h v => ∃ j d : Nat, j ≤ 11 ∧ h = .int .i64 (1 + j) ∧ v = .int .u64 d ∧ d < 18446744073709551616 ∧ hts 11 D = j + hts (11 - j) d) (fun h _ => 12 - (intOf h).toNat)
  case atStart => exact ⟨0, D, by omega, rfl, by rw [IntKind.wrap_u64, HD.out], hDl, by simp⟩
  case round =>
    obtain ⟨j, d, hj, rfl, rfl, hd, heq⟩ := hrel
    have Heq := Lib.hid heq
    clear heq
    have ha := and_three .u64 (.inl rfl) d
    by_cases h3 : d % 4 = 3
    · have h3' : ((d : Int) % 4 == 3) = true := by rw [beq_iff_eq]; omega
      by_cases hj2 : j < 11
      · have Hs : Hid (hts (11 - j) d = 1 + hts (11 - (j + 1)) (d / 4)) := Lib.hid (by
          rw [show 11 - j = (11 - (j + 1)) + 1 by omega, hts, if_pos h3])
        clear h3
        go_wp2
        go_round
        case rel => exact ⟨j + 1, d / 4, by omega, by go_num, by go_num, by omega, by rw [Heq.out, Hs.out]; omega⟩
        case measure => simp [intOf]; omega
      · obtain rfl : j = 11 := by omega
        clear h3
        go_wp2
        go_ret
        exact ⟨by rw [HF.out, Heq.out]; simp [hts], rfl⟩
    · have h3' : ((d : Int) % 4 == 3) = false := by rw [beq_eq_false_iff_ne]; omega
      have Hs : Hid (hts (11 - j) d = 0) := Lib.hid (by
        rcases Nat.eq_zero_or_pos (11 - j) with h | h
        · rw [h]; rfl
        · rw [show 11 - j = (11 - j - 1) + 1 by omega, hts, if_neg h3])
      clear h3
      go_wp2
      go_ret
      exact ⟨by rw [HF.out, Heq.out, Hs.out]; exact ret_i64 (by omega), rfl⟩

set_option maxRecDepth 100000 in
set_option maxHeartbeats 2000000 in
theorem refheight (draw : Int) (w : World) (h0 : -9223372036854775808 ≤ draw) (h1 : draw ≤ 9223372036854775807) :
    Calls Try.prog 10 #[.int .i64 draw] w fun e w' => e = .returned (.int .i64 (heightOf draw)) ∧ w = w' := by
  obtain ⟨D, hD⟩ : ∃ D : Nat, draw % 18446744073709551616 = (D : Int) := ⟨(draw % 18446744073709551616).toNat, by omega⟩
  have HF : Hid (heightOf draw = 1 + hts 11 D) := Lib.hid (by unfold heightOf; rw [hD, Int.toNat_natCast])
  have HD := Lib.hid hD
  clear hD
  go_enter Try.func10, Try.ntmps10
  go_wp2
  go_loop [3] (fun h => ∃ j : Nat, j ≤ 11 ∧ h = .int .i64 (1 + j) ∧ hts 11 D = j + hts (11 - j) (D / 4 ^ j)) (fun h => 12 - (intOf h).toNat)
  case atStart => exact ⟨0, by omega, rfl, by simp⟩
  case round =>
    obtain ⟨j, hj, rfl, heq⟩ := hrel
    have Heq := Lib.hid heq
    clear heq
    have hj' : j = 11 ∨ j = 0 ∨ j = 1 ∨ j = 2 ∨ j = 3 ∨ j = 4 ∨ j = 5 ∨ j = 6 ∨ j = 7 ∨ j = 8 ∨ j = 9 ∨ j = 10 := by omega
    rcases hj' with rfl | rfl | rfl | rfl | rfl | rfl | rfl | rfl | rfl | rfl | rfl | rfl
    · go_wp2
      go_ret
      exact ⟨by rw [HF.out, Heq.out]; simp [hts], rfl⟩
    · have ha := and_three .i64 (.inr rfl) (draw)
      by_cases h3 : D / 1 % 4 = 3
      · have h3' : (draw % 4 == 3) = true := by rw [beq_iff_eq]; have := HD.out; omega
        have Hs : Hid (hts 11 D = 1 + hts (11 - 1) (D / 4 ^ 1)) := Lib.hid (by
          rw [Heq.out]
          show 0 + hts (10 + 1) (D / 4 ^ 0) = _
          rw [show hts (10 + 1) (D / 4 ^ 0) = 1 + hts 10 (D / 4 ^ 0 / 4) from if_pos h3, Nat.div_div_eq_div_mul, ← Nat.pow_succ]
          show 0 + (1 + hts 10 (D / 4 ^ 1)) = 1 + hts 10 (D / 4 ^ 1)
          omega)
        clear h3
        go_wp2
        go_round
        case rel => exact ⟨1, by omega, by go_num, Hs.out⟩
        case measure => simp [intOf]
      · have h3' : (draw % 4 == 3) = false := by rw [beq_eq_false_iff_ne]; have := HD.out; omega
        have Hs : Hid (hts 11 D = 0) := Lib.hid (by
          rw [Heq.out]
          show 0 + hts (10 + 1) (D / 4 ^ 0) = _
          rw [hts, if_neg h3])
        clear h3
        go_wp2
        go_ret
        exact ⟨by rw [HF.out, Hs.out]; rfl, rfl⟩
    · have ha := and_three .i64 (.inr rfl) (draw / 4)
      by_cases h3 : D / 4 % 4 = 3
      · have h3' : (draw / 4 % 4 == 3) = true := by rw [beq_iff_eq]; have := HD.out; omega
        have Hs : Hid (hts 11 D = 2 + hts (11 - 2) (D / 4 ^ 2)) := Lib.hid (by
          rw [Heq.out]
          show 1 + hts (9 + 1) (D / 4 ^ 1) = _
          rw [show hts (9 + 1) (D / 4 ^ 1) = 1 + hts 9 (D / 4 ^ 1 / 4) from if_pos h3, Nat.div_div_eq_div_mul, ← Nat.pow_succ]
          show 1 + (1 + hts 9 (D / 4 ^ 2)) = 2 + hts 9 (D / 4 ^ 2)
          omega)
        clear h3
        go_wp2
        go_round
        case rel => exact ⟨2, by omega, by go_num, Hs.out⟩
        case measure => simp [intOf]
      · have h3' : (draw / 4 % 4 == 3) = false := by rw [beq_eq_false_iff_ne]; have := HD.out; omega
        have Hs : Hid (hts 11 D = 1) := Lib.hid (by
          rw [Heq.out]
          show 1 + hts (9 + 1) (D / 4 ^ 1) = _
          rw [hts, if_neg h3])
        clear h3
        go_wp2
        go_ret
        exact ⟨by rw [HF.out, Hs.out]; rfl, rfl⟩
    · have ha := and_three .i64 (.inr rfl) (draw / 16)
      by_cases h3 : D / 16 % 4 = 3
      · have h3' : (draw / 16 % 4 == 3) = true := by rw [beq_iff_eq]; have := HD.out; omega
        have Hs : Hid (hts 11 D = 3 + hts (11 - 3) (D / 4 ^ 3)) := Lib.hid (by
          rw [Heq.out]
          show 2 + hts (8 + 1) (D / 4 ^ 2) = _
          rw [show hts (8 + 1) (D / 4 ^ 2) = 1 + hts 8 (D / 4 ^ 2 / 4) from if_pos h3, Nat.div_div_eq_div_mul, ← Nat.pow_succ]
          show 2 + (1 + hts 8 (D / 4 ^ 3)) = 3 + hts 8 (D / 4 ^ 3)
          omega)
        clear h3
        go_wp2
        go_round
        case rel => exact ⟨3, by omega, by go_num, Hs.out⟩
        case measure => simp [intOf]
      · have h3' : (draw / 16 % 4 == 3) = false := by rw [beq_eq_false_iff_ne]; have := HD.out; omega
        have Hs : Hid (hts 11 D = 2) := Lib.hid (by
          rw [Heq.out]
          show 2 + hts (8 + 1) (D / 4 ^ 2) = _
          rw [hts, if_neg h3])
        clear h3
        go_wp2
        go_ret
        exact ⟨by rw [HF.out, Hs.out]; rfl, rfl⟩
    · have ha := and_three .i64 (.inr rfl) (draw / 64)
      by_cases h3 : D / 64 % 4 = 3
      · have h3' : (draw / 64 % 4 == 3) = true := by rw [beq_iff_eq]; have := HD.out; omega
        have Hs : Hid (hts 11 D = 4 + hts (11 - 4) (D / 4 ^ 4)) := Lib.hid (by
          rw [Heq.out]
          show 3 + hts (7 + 1) (D / 4 ^ 3) = _
          rw [show hts (7 + 1) (D / 4 ^ 3) = 1 + hts 7 (D / 4 ^ 3 / 4) from if_pos h3, Nat.div_div_eq_div_mul, ← Nat.pow_succ]
          show 3 + (1 + hts 7 (D / 4 ^ 4)) = 4 + hts 7 (D / 4 ^ 4)
          omega)
        clear h3
        go_wp2
        go_round
        case rel => exact ⟨4, by omega, by go_num, Hs.out⟩
        case measure => simp [intOf]
      · have h3' : (draw / 64 % 4 == 3) = false := by rw [beq_eq_false_iff_ne]; have := HD.out; omega
        have Hs : Hid (hts 11 D = 3) := Lib.hid (by
          rw [Heq.out]
          show 3 + hts (7 + 1) (D / 4 ^ 3) = _
          rw [hts, if_neg h3])
        clear h3
        go_wp2
        go_ret
        exact ⟨by rw [HF.out, Hs.out]; rfl, rfl⟩
    · have ha := and_three .i64 (.inr rfl) (draw / 256)
      by_cases h3 : D / 256 % 4 = 3
      · have h3' : (draw / 256 % 4 == 3) = true := by rw [beq_iff_eq]; have := HD.out; omega
        have Hs : Hid (hts 11 D = 5 + hts (11 - 5) (D / 4 ^ 5)) := Lib.hid (by
          rw [Heq.out]
          show 4 + hts (6 + 1) (D / 4 ^ 4) = _
          rw [show hts (6 + 1) (D / 4 ^ 4) = 1 + hts 6 (D / 4 ^ 4 / 4) from if_pos h3, Nat.div_div_eq_div_mul, ← Nat.pow_succ]
          show 4 + (1 + hts 6 (D / 4 ^ 5)) = 5 + hts 6 (D / 4 ^ 5)
          omega)
        clear h3
        go_wp2
        go_round
        case rel => exact ⟨5, by omega, by go_num, Hs.out⟩
        case measure => simp [intOf]
      · have h3' : (draw / 256 % 4 == 3) = false := by rw [beq_eq_false_iff_ne]; have := HD.out; omega
        have Hs : Hid (hts 11 D = 4) := Lib.hid (by
          rw [Heq.out]
          show 4 + hts (6 + 1) (D / 4 ^ 4) = _
          rw [hts, if_neg h3])
        clear h3
        go_wp2
        go_ret
        exact ⟨by rw [HF.out, Hs.out]; rfl, rfl⟩
    · have ha := and_three .i64 (.inr rfl) (draw / 1024)
      by_cases h3 : D / 1024 % 4 = 3
      · have h3' : (draw / 1024 % 4 == 3) = true := by rw [beq_iff_eq]; have := HD.out; omega
        have Hs : Hid (hts 11 D = 6 + hts (11 - 6) (D / 4 ^ 6)) := Lib.hid (by
          rw [Heq.out]
          show 5 + hts (5 + 1) (D / 4 ^ 5) = _
          rw [show hts (5 + 1) (D / 4 ^ 5) = 1 + hts 5 (D / 4 ^ 5 / 4) from if_pos h3, Nat.div_div_eq_div_mul, ← Nat.pow_succ]
          show 5 + (1 + hts 5 (D / 4 ^ 6)) = 6 + hts 5 (D / 4 ^ 6)
          omega)
        clear h3
        go_wp2
        go_round
        case rel => exact ⟨6, by omega, by go_num, Hs.out⟩
        case measure => simp [intOf]
      · have h3' : (draw / 1024 % 4 == 3) = false := by rw [beq_eq_false_iff_ne]; have := HD.out; omega
        have Hs : Hid (hts 11 D = 5) := Lib.hid (by
          rw [Heq.out]
          show 5 + hts (5 + 1) (D / 4 ^ 5) = _
          rw [hts, if_neg h3])
        clear h3
        go_wp2
        go_ret
        exact ⟨by rw [HF.out, Hs.out]; rfl, rfl⟩
    · have ha := and_three .i64 (.inr rfl) (draw / 4096)
      by_cases h3 : D / 4096 % 4 = 3
      · have h3' : (draw / 4096 % 4 == 3) = true := by rw [beq_iff_eq]; have := HD.out; omega
        have Hs : Hid (hts 11 D = 7 + hts (11 - 7) (D / 4 ^ 7)) := Lib.hid (by
          rw [Heq.out]
          show 6 + hts (4 + 1) (D / 4 ^ 6) = _
          rw [show hts (4 + 1) (D / 4 ^ 6) = 1 + hts 4 (D / 4 ^ 6 / 4) from if_pos h3, Nat.div_div_eq_div_mul, ← Nat.pow_succ]
          show 6 + (1 + hts 4 (D / 4 ^ 7)) = 7 + hts 4 (D / 4 ^ 7)
          omega)
        clear h3
        go_wp2
        go_round
        case rel => exact ⟨7, by omega, by go_num, Hs.out⟩
        case measure => simp [intOf]
      · have h3' : (draw / 4096 % 4 == 3) = false := by rw [beq_eq_false_iff_ne]; have := HD.out; omega
        have Hs : Hid (hts 11 D = 6) := Lib.hid (by
          rw [Heq.out]
          show 6 + hts (4 + 1) (D / 4 ^ 6) = _
          rw [hts, if_neg h3])
        clear h3
        go_wp2
        go_ret
        exact ⟨by rw [HF.out, Hs.out]; rfl, rfl⟩
    · have ha := and_three .i64 (.inr rfl) (draw / 16384)
      by_cases h3 : D / 16384 % 4 = 3
      · have h3' : (draw / 16384 % 4 == 3) = true := by rw [beq_iff_eq]; have := HD.out; omega
        have Hs : Hid (hts 11 D = 8 + hts (11 - 8) (D / 4 ^ 8)) := Lib.hid (by
          rw [Heq.out]
          show 7 + hts (3 + 1) (D / 4 ^ 7) = _
          rw [show hts (3 + 1) (D / 4 ^ 7) = 1 + hts 3 (D / 4 ^ 7 / 4) from if_pos h3, Nat.div_div_eq_div_mul, ← Nat.pow_succ]
          show 7 + (1 + hts 3 (D / 4 ^ 8)) = 8 + hts 3 (D / 4 ^ 8)
          omega)
        clear h3
        go_wp2
        go_round
        case rel => exact ⟨8, by omega, by go_num, Hs.out⟩
        case measure => simp [intOf]
      · have h3' : (draw / 16384 % 4 == 3) = false := by rw [beq_eq_false_iff_ne]; have := HD.out; omega
        have Hs : Hid (hts 11 D = 7) := Lib.hid (by
          rw [Heq.out]
          show 7 + hts (3 + 1) (D / 4 ^ 7) = _
          rw [hts, if_neg h3])
        clear h3
        go_wp2
        go_ret
        exact ⟨by rw [HF.out, Hs.out]; rfl, rfl⟩
    · have ha := and_three .i64 (.inr rfl) (draw / 65536)
      by_cases h3 : D / 65536 % 4 = 3
      · have h3' : (draw / 65536 % 4 == 3) = true := by rw [beq_iff_eq]; have := HD.out; omega
        have Hs : Hid (hts 11 D = 9 + hts (11 - 9) (D / 4 ^ 9)) := Lib.hid (by
          rw [Heq.out]
          show 8 + hts (2 + 1) (D / 4 ^ 8) = _
          rw [show hts (2 + 1) (D / 4 ^ 8) = 1 + hts 2 (D / 4 ^ 8 / 4) from if_pos h3, Nat.div_div_eq_div_mul, ← Nat.pow_succ]
          show 8 + (1 + hts 2 (D / 4 ^ 9)) = 9 + hts 2 (D / 4 ^ 9)
          omega)
        clear h3
        go_wp2
        go_round
        case rel => exact ⟨9, by omega, by go_num, Hs.out⟩
        case measure => simp [intOf]
      · have h3' : (draw / 65536 % 4 == 3) = false := by rw [beq_eq_false_iff_ne]; have := HD.out; omega
        have Hs : Hid (hts 11 D = 8) := Lib.hid (by
          rw [Heq.out]
          show 8 + hts (2 + 1) (D / 4 ^ 8) = _
          rw [hts, if_neg h3])
        clear h3
        go_wp2
        go_ret
        exact ⟨by rw [HF.out, Hs.out]; rfl, rfl⟩
    · have ha := and_three .i64 (.inr rfl) (draw / 262144)
      by_cases h3 : D / 262144 % 4 = 3
      · have h3' : (draw / 262144 % 4 == 3) = true := by rw [beq_iff_eq]; have := HD.out; omega
        have Hs : Hid (hts 11 D = 10 + hts (11 - 10) (D / 4 ^ 10)) := Lib.hid (by
          rw [Heq.out]
          show 9 + hts (1 + 1) (D / 4 ^ 9) = _
          rw [show hts (1 + 1) (D / 4 ^ 9) = 1 + hts 1 (D / 4 ^ 9 / 4) from if_pos h3, Nat.div_div_eq_div_mul, ← Nat.pow_succ]
          show 9 + (1 + hts 1 (D / 4 ^ 10)) = 10 + hts 1 (D / 4 ^ 10)
          omega)
        clear h3
        go_wp2
        go_round
        case rel => exact ⟨10, by omega, by go_num, Hs.out⟩
        case measure => simp [intOf]
      · have h3' : (draw / 262144 % 4 == 3) = false := by rw [beq_eq_false_iff_ne]; have := HD.out; omega
        have Hs : Hid (hts 11 D = 9) := Lib.hid (by
          rw [Heq.out]
          show 9 + hts (1 + 1) (D / 4 ^ 9) = _
          rw [hts, if_neg h3])
        clear h3
        go_wp2
        go_ret
        exact ⟨by rw [HF.out, Hs.out]; rfl, rfl⟩
    · have ha := and_three .i64 (.inr rfl) (draw / 1048576)
      by_cases h3 : D / 1048576 % 4 = 3
      · have h3' : (draw / 1048576 % 4 == 3) = true := by rw [beq_iff_eq]; have := HD.out; omega
        have Hs : Hid (hts 11 D = 11 + hts (11 - 11) (D / 4 ^ 11)) := Lib.hid (by
          rw [Heq.out]
          show 10 + hts (0 + 1) (D / 4 ^ 10) = _
          rw [show hts (0 + 1) (D / 4 ^ 10) = 1 + hts 0 (D / 4 ^ 10 / 4) from if_pos h3, Nat.div_div_eq_div_mul, ← Nat.pow_succ]
          show 10 + (1 + hts 0 (D / 4 ^ 11)) = 11 + hts 0 (D / 4 ^ 11)
          omega)
        clear h3
        go_wp2
        go_round
        case rel => exact ⟨11, by omega, by go_num, Hs.out⟩
        case measure => simp [intOf]
      · have h3' : (draw / 1048576 % 4 == 3) = false := by rw [beq_eq_false_iff_ne]; have := HD.out; omega
        have Hs : Hid (hts 11 D = 10) := Lib.hid (by
          rw [Heq.out]
          show 10 + hts (0 + 1) (D / 4 ^ 10) = _
          rw [hts, if_neg h3])
        clear h3
        go_wp2
        go_ret
        exact ⟨by rw [HF.out, Hs.out]; rfl, rfl⟩
end Go.Proofs.Ythpafhimmhacfaa
