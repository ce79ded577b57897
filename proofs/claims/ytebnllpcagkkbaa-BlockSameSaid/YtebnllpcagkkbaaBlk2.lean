/- Restarts; pairs that are compared. -/
import Derived.Test.YtebnllpcagkkbaaBlk
namespace Go.Proofs.Ytebnllpcagkkbaa
open Go.RowKit
set_option linter.unusedVariables false
set_option linter.unusedSimpArgs false

theorem paF : Try.prog.underlying 35 = some (.struct (Try.prog.fieldsOf 35)) := by kernel_rfl
theorem paH : Try.prog.stoodInHeld 35 = false := by kernel_rfl
def paeq (x y : PairD) : Bool := x.key.toList == y.key.toList && x.val.toList == y.val.toList
theorem paeq_self (x : PairD) : paeq x x = true := by simp [paeq]
theorem eqPa (x y : PairD) (w : World) : (binOp .eql 35 (.agg #[.string x.key, .string x.val]) (.agg #[.string y.key, .string y.val])).run Try.prog w = .ok (.bool (paeq x y)) w := by
  rw [run_eql_struct, run_equalIn_agg w _ 35 _ _ paF paH]
  unfold paeq
  simp [Program.fieldsOf, Try.underlying35, go_sem]
  split <;> (try split) <;> (try split) <;> simp_all
theorem nePa (x y : PairD) (w : World) : (binOp .neq 35 (.agg #[.string x.key, .string x.val]) (.agg #[.string y.key, .string y.val])).run Try.prog w = .ok (.bool (!paeq x y)) w := by
  rw [run_neq_struct, run_equalIn_agg w _ 35 _ _ paF paH]
  unfold paeq
  simp [Program.fieldsOf, Try.underlying35, go_sem]
  split <;> (try split) <;> (try split) <;> simp_all

/-- how many of the first k numbers are no rest away -/
def cntM (ev : Nat) : Nat → Nat
  | 0 => 0
  | k + 1 => cntM ev k + if k % ev = 0 then 1 else 0
theorem cntM_le (ev : Nat) : ∀ k, cntM ev k ≤ k
  | 0 => Nat.le_refl _
  | k + 1 => by have := cntM_le ev k; unfold cntM; split <;> omega
theorem cntM_div (ev : Nat) (h : 1 ≤ ev) : ∀ k, cntM ev k = (k + ev - 1) / ev
  | 0 => by rw [cntM, Nat.zero_add, Nat.div_eq_of_lt (by omega)]
  | k + 1 => by
    rw [cntM, cntM_div ev h k, show k + 1 + ev - 1 = k + ev by omega, Nat.add_div_right k (by omega)]
    have hk := Nat.div_add_mod k ev
    have hm := Nat.mod_lt k (show ev > 0 by omega)
    generalize k / ev = q at *
    generalize k % ev = r at *
    by_cases h0 : r = 0
    · rw [if_pos h0]
      subst h0
      have : (k + ev - 1) / ev = q := by
        rw [← hk, show ev * q + 0 + ev - 1 = ev - 1 + ev * q by omega, Nat.add_mul_div_left _ _ (by omega), Nat.div_eq_of_lt (by omega)]; omega
      omega
    · rw [if_neg h0]
      have : (k + ev - 1) / ev = q + 1 := by
        rw [← hk, show ev * q + r + ev - 1 = r - 1 + ev * (q + 1) by rw [Nat.mul_add]; omega, Nat.add_mul_div_left _ _ (by omega), Nat.div_eq_of_lt (by omega)]; omega
      omega
set_option maxHeartbeats 1000000 in
theorem brestarts_any {w : World} {x : Nat} {a : Option Addr} {c : Nat} {L : List PairD} {ev : Nat} (h : BK w x a c L ev) (h1 : 1 ≤ ev) (h2 : ev ≤ 64) (hl : L.length ≤ 1000000) : Calls Try.prog 23 #[.pointer (some ⟨x, 0, none⟩)] w fun e w' => e = .returned (.int .i64 (cntM ev L.length)) ∧ Below w.heap.size w w' := by
  obtain ⟨k0, k1, _⟩ := cell_two h.1
  have hd := cntM_div ev h1 L.length
  have hle := cntM_le ev L.length
  have w1 : IntKind.i64.wrap ((L.length : Int) + (ev : Int)) = (L.length : Int) + (ev : Int) := IntWalk.i64_in _ (by omega)
  have w2 : IntKind.i64.wrap ((L.length : Int) + (ev : Int) - 1) = (L.length : Int) + (ev : Int) - 1 := IntWalk.i64_in _ (by omega)
  have w3 : ((L.length : Int) + (ev : Int) - 1).tdiv (ev : Int) = (cntM ev L.length : Nat) := by
    rw [hd, show (L.length : Int) + (ev : Int) - 1 = ((L.length + ev - 1 : Nat) : Int) by omega]; rfl
  have w4 : IntKind.i64.wrap ((cntM ev L.length : Nat) : Int) = (cntM ev L.length : Nat) := IntWalk.i64_in _ (by omega)
  have hne : ((ev : Int) == 0) = false := by rw [beq_eq_false_iff_ne]; omega
  clear h hd
  generalize cntM ev L.length = N at *
  go_enter Try.func23, Try.ntmps23
  go_wp2_with fail
  go_quiet (fail)
  go_wp2
  go_ret
  exact ⟨rfl, below_drewN (Below.refl _ _) _⟩
end Go.Proofs.Ytebnllpcagkkbaa
