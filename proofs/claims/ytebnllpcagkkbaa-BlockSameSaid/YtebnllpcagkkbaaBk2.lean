/- The contract of block.Build, where it refuses a number; sum.Word. -/
import Derived.Test.YtebnllpcagkkbaaBk1
namespace Go.Proofs.Ytebnllpcagkkbaa
open Go.RowKit
set_option linter.unusedVariables false
set_option linter.unusedSimpArgs false

set_option maxHeartbeats 1000000 in
theorem build_range {w : World} {a : Option Addr} {c n : Nat} (every : Int) (h : every < 1 ∨ 64 < every) :
    Calls Try.prog 15 #[.slice a n c, .int .i64 every] w fun e w' => e = .returned (.tuple #[.slice none 0 0, .int .i64 70]) ∧ w = w' := by
  rcases h with h | h
  · go_enter Try.func15, Try.ntmps15
    go_wp2
    go_ret2
    exact ⟨rfl, rfl⟩
  · have h1 : 1 ≤ every := by omega
    go_enter Try.func15, Try.ntmps15
    go_wp2
    go_ret2
    exact ⟨rfl, rfl⟩

theorem word_cells (n : Nat) (hn : n < 4294967296) : (#[.int .u8 ((n : Int) / 16777216), .int .u8 ((n : Int) / 65536 % 256), .int .u8 ((n : Int) / 256 % 256), .int .u8 ((n : Int) % 256)] : Array Value) = (bvs (word4 n)).toArray := by
  unfold word4
  simp only [bvs, bv, List.map_cons, List.map_nil, toNat_ofNat8]
  rw [show ((n / 16777216 % 256 % 256 : Nat) : Int) = (n : Int) / 16777216 by omega, show ((n / 65536 % 256 % 256 : Nat) : Int) = (n : Int) / 65536 % 256 by omega, show ((n / 256 % 256 % 256 : Nat) : Int) = (n : Int) / 256 % 256 by omega, show ((n % 256 % 256 : Nat) : Int) = (n : Int) % 256 by omega]
set_option maxHeartbeats 1000000 in
theorem word_any (n : Nat) (w : World) (hn : n < 4294967296) :
    Calls Try.prog 30 #[.int .u32 n] w fun e w' => ∃ v, e = .returned v ∧ RB w' v (word4 n) ∧ Below w.heap.size w w' := by
  go_enter Try.func30, Try.ntmps30
  go_wp2
  go_ret
  exact ⟨_, rfl, RB.fresh w (word4 n) _ _ _ 4 4 (word_cells n hn) rfl (Nat.le_refl 4), (Below.refl _ _).alloc (Nat.le_refl _) _⟩
end Go.Proofs.Ytebnllpcagkkbaa
