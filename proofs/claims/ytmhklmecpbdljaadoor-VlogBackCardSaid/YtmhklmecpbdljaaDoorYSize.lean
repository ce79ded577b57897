/- The contract of wire.Size. -/
import Derived.Test.YtmhklmecpbdljaaDoorYNum
import Derived.Test.YtmhklmecpbdljaaDoorShelf
import Derived.Lib.BitFns
namespace Go.Proofs.YtmhklmecpbdljaaDoor
open Go.RowKit
set_option linter.unusedVariables false

theorem size_plain : ∀ (k n : Nat), n < 128 ^ (k + 1) → n < 9223372036854775808 → (max (Lib.bitLen n) 1 + 6) / 7 = (num n).length
  | k, n, h, h63 => by
    by_cases h1 : n ≤ 127
    · rw [num_small h1]
      have := Lib.bitLen_le n 7 (by decide) (by omega)
      simp only [List.length_cons, List.length_nil]
      omega
    · cases k with
      | zero => omega
      | succ k =>
        rw [num_big (by omega), Lib.bitLen_shift 7 n (by omega) (by omega)]
        have ih := size_plain k (n / 128) (by rw [Nat.pow_succ] at h; omega) (by omega)
        have e : n / 2 ^ 7 = n / 128 := rfl
        rw [e, List.length_cons, ← ih]
        have hp : 1 ≤ Lib.bitLen (n / 128) := by
          rw [Lib.bitLen_half (n / 128) (by omega) (by omega)]; omega
        omega

set_option maxHeartbeats 1000000 in
theorem size_any (n : Nat) (w : World) (hn : n < 9223372036854775808) :
    Calls Tryd.prog 44 #[.int .i64 n] w fun e w' => e = .returned (.int .i64 (num n).length) ∧ w = w' := by
  have hs := size_plain 8 n (by omega) hn
  have hb := Lib.bitLen_le n 64 (by decide) (by omega)
  have Hs := Lib.hid hs
  clear hs
  go_enter Tryd.func44, Tryd.ntmps44
  go_wp2_with fail; (with_reducible refine (Tryd.bits_Len _ _ (by omega) (by omega)).mono ?_); rintro e w1 ⟨rfl, hw⟩
  subst hw
  rw [Int.toNat_natCast]
  generalize Lib.bitLen n = k at hb Hs
  go_wp2
  go_ret
  exact ⟨by rw [← Hs.out]; simp; omega, rfl⟩
theorem size_neg (n : Int) (w : World) (hn : n < 0) :
    Calls Tryd.prog 44 #[.int .i64 n] w fun e w' => e = .returned (.int .i64 0) ∧ w = w' := by
  go_enter Tryd.func44, Tryd.ntmps44
  go_wp2
  go_ret
  exact ⟨rfl, rfl⟩
end Go.Proofs.YtmhklmecpbdljaaDoor
