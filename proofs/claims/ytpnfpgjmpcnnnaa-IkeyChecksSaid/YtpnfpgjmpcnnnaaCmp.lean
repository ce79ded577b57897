/- Contracts of the comparisons: strings.Compare, cmp.Compare at int, cmp.Or at int: each for every input. -/
import Derived.Test.YtpnfpgjmpcnnnaaRows
import Derived.WalkKit
import Derived.WalkLawsBesides
import Derived.WalkSpells
import Derived.Lib.Hide
import Derived.Lib.Bytealg
import Derived.Deep.DeepFit
import Derived.Deep.LoopGhost
import Derived.Deep.RegionHeld3
import Derived.BigQuiet
import Derived.Deep.QuietTactic
namespace Go.Proofs.Ytpnfpgjmpcnnnaa
open Go.RowKit
set_option linter.unusedVariables false

theorem cmpstr (a b : ByteArray) (w : World) :
    Calls Try.prog 26 #[.string a, .string b] w fun e w' => e = .returned (.int .i64 (Lib.compareBytes a.data.toList b.data.toList)) ∧ w = w' := by
  go_enter Try.func26, Try.ntmps26
  go_wp2
  rw [run_callFunc_extern Try.func39 (by kernel_rfl) (by kernel_rfl) (by kernel_rfl) (e := Extern.BytealgCompare.compare) (by kernel_rfl), Lib.run_compareString]
  simp only [Result.andThen]
  rw [Oper.upon_value]
  go_wp2
  go_ret
  exact ⟨rfl, rfl⟩

/-- which of two numbers stands first -/
def icmp (a b : Int) : Int := if a < b then -1 else if b < a then 1 else 0

theorem cmpint (a b : Int) (w : World) :
    Calls Try.prog 27 #[.int .i64 a, .int .i64 b] w fun e w' => e = .returned (.int .i64 (icmp a b)) ∧ w = w' := by
  rcases Int.lt_trichotomy a b with h | h | h
  · have h2 : icmp a b = -1 := by unfold icmp; rw [if_pos h]
    rw [h2]; clear h2
    go_enter Try.func27, Try.ntmps27
    go_wp2
    go_ret
    exact ⟨rfl, rfl⟩
  · subst h
    have h2 : icmp a a = 0 := by unfold icmp; simp
    rw [h2]; clear h2
    go_enter Try.func27, Try.ntmps27
    go_wp2
    go_ret
    exact ⟨rfl, rfl⟩
  · have h2 : icmp a b = 1 := by unfold icmp; rw [if_neg (by omega), if_pos h]
    rw [h2]; clear h2
    go_enter Try.func27, Try.ntmps27
    go_wp2
    go_ret
    exact ⟨rfl, rfl⟩

def or3 (x y z : Int) : Int := if x ≠ 0 then x else if y ≠ 0 then y else z

theorem cmpor (x y z : Int) (w : World) (b : Nat) (h0 : w.cell? ⟨b, 0, none⟩ = some (.int .i64 x)) (h1 : w.cell? ⟨b, 1, none⟩ = some (.int .i64 y)) (h2 : w.cell? ⟨b, 2, none⟩ = some (.int .i64 z)) :
    Calls Try.prog 25 #[.slice (some ⟨b, 0, none⟩) 3 3] w fun e w' => e = .returned (.int .i64 (or3 x y z)) ∧ w = w' := by
  by_cases hx : x = 0
  · subst hx
    by_cases hy : y = 0
    · subst hy
      by_cases hz : z = 0
      · subst hz
        go_enter Try.func25, Try.ntmps25
        go_wp2
        refine wp_loop_rounds 4 ?_
        rw [rounds_succ]
        go_wp2
        rw [rounds_succ]
        go_wp2
        rw [rounds_succ]
        go_wp2
        rw [rounds_succ]
        go_wp2
        go_ret
        exact ⟨rfl, rfl⟩
      · have hz' : ((z : Int) == 0) = false := by simp [hz]
        have hz'' : ((z : Int) != 0) = true := by simp [hz]
        have e : or3 0 0 z = z := by simp [or3]
        rw [e]; clear e hz
        go_enter Try.func25, Try.ntmps25
        go_wp2
        refine wp_loop_rounds 4 ?_
        rw [rounds_succ]
        go_wp2
        rw [rounds_succ]
        go_wp2
        rw [rounds_succ]
        go_wp2
        go_ret
        exact ⟨rfl, rfl⟩
    · have hz' : ((y : Int) == 0) = false := by simp [hy]
      have hz'' : ((y : Int) != 0) = true := by simp [hy]
      have e : or3 0 y z = y := by simp [or3, hy]
      rw [e]; clear e hy
      go_enter Try.func25, Try.ntmps25
      go_wp2
      refine wp_loop_rounds 4 ?_
      rw [rounds_succ]
      go_wp2
      rw [rounds_succ]
      go_wp2
      go_ret
      exact ⟨rfl, rfl⟩
  · have hz' : ((x : Int) == 0) = false := by simp [hx]
    have hz'' : ((x : Int) != 0) = true := by simp [hx]
    have e : or3 x y z = x := by simp [or3, hx]
    rw [e]; clear e hx
    go_enter Try.func25, Try.ntmps25
    go_wp2
    refine wp_loop_rounds 4 ?_
    rw [rounds_succ]
    go_wp2
    go_ret
    exact ⟨rfl, rfl⟩
end Go.Proofs.Ytpnfpgjmpcnnnaa
