/- Put: a bad height; a key that is there. -/
import Derived.Test.YthpafhimmhacfaaSkE
import Derived.Test.YthpafhimmhacfaaSkI
namespace Go.Proofs.Ythpafhimmhacfaa
open Go.RowKit
set_option linter.unusedVariables false
set_option linter.unusedSimpArgs false

set_option maxHeartbeats 1000000 in
theorem put_bad_ii (w : World) (p : Nat) (k y ht : Int) (h : ht < 1 ∨ 12 < ht) :
    Calls Try.prog 13 #[.pointer (some ⟨p, 0, none⟩), .int .i64 k, .int .i64 y, .int .i64 ht] w fun e w' => e = .returned (.tuple #[.bool false, .int .i64 70]) ∧ w = w' := by
  rcases h with h | h
  · go_enter Try.func13, Try.ntmps13
    go_wp2
    go_ret2
    exact ⟨rfl, rfl⟩
  · have h1 : 1 ≤ ht := by omega
    go_enter Try.func13, Try.ntmps13
    go_wp2
    go_ret2
    exact ⟨rfl, rfl⟩

section
variable {κ : Type}
def setV (e : SE κ) (x : Value) : SE κ := { e with val := x }
theorem fid_setV (x : Value) : ∀ (R : List (SE κ)) (c h : Nat), fid (R.modify c (setV · x)) h = fid R h
  | [], c, h => by cases c <;> rfl
  | e :: R, 0, h => rfl
  | e :: R, c + 1, h => by
    rw [List.modify_succ_cons]
    unfold fid
    rw [fid_setV x R c h]
theorem row_ne3 {w : World} {B sz n q : Nat} {e T : TypeId} {v : Value} {xs : List Value} {cs : Array Value} {fr : Nat × Nat} (h : w.ownsRow B e sz v n xs) (hq : w.heap[q]? = some (.cells cs T fr)) (hT : T ≠ e) : v.ownBlock ≠ some q := by
  rcases h.2 with ⟨rfl, _⟩ | ⟨g, cap, cur, rfl, _, hh, _⟩
  · intro h; cases h
  · intro h
    obtain rfl : g = q := by simpa [Value.ownBlock] using h
    rw [hh] at hq
    simp only [Option.some.injEq, Obj.cells.injEq] at hq
    exact hT hq.2.1.symm
theorem row_two {w : World} {B1 B2 s1 s2 n1 n2 : Nat} {e1 e2 : TypeId} {v1 v2 : Value} {xs1 xs2 : List Value} (h1 : w.ownsRow B1 e1 s1 v1 n1 xs1) (h2 : w.ownsRow B2 e2 s2 v2 n2 xs2) (hne : e1 ≠ e2) : ∀ k, v1.ownBlock = some k → v2.ownBlock = some k → False := by
  intro k hk hk2
  rcases h1.2 with ⟨rfl, _⟩ | ⟨g, cap, cur, rfl, _, hh, _⟩
  · cases hk
  · rcases h2.2 with ⟨rfl, _⟩ | ⟨g', cap', cur', rfl, _, hh', _⟩
    · cases hk2
    · simp only [Value.ownBlock, Option.some.injEq] at hk hk2
      subst hk; subst hk2
      rw [hh] at hh'
      simp only [Option.some.injEq, Obj.cells.injEq] at hh'
      exact hne hh'.2.1
end
end Go.Proofs.Ythpafhimmhacfaa
