/- The contract of wire.Reader.Text. -/
import Derived.Test.YtebnllpcagkkbaaRdNum
namespace Go.Proofs.Ytebnllpcagkkbaa
open Go.RowKit
set_option linter.unusedVariables false

/-- the text at the head of some bytes, and what is left -/
def rdText (l : List UInt8) : Option (List UInt8 × List UInt8) :=
  match rdNum 9 true l with
  | some (n, r) => if n ≤ r.length then some (r.take n, r.drop n) else none
  | none => none
theorem rdText_num (m r : List UInt8) (h : m.length < 9223372036854775808) : rdText (num m.length ++ m ++ r) = some (m, r) := by
  unfold rdText
  rw [List.append_assoc, rdNum9_num h]
  simp
theorem rdText_some {l t r : List UInt8} (h : rdText l = some (t, r)) : ∃ n q, rdNum 9 true l = some (n, q) ∧ n ≤ q.length ∧ t = q.take n ∧ r = q.drop n := by
  unfold rdText at h
  cases e : rdNum 9 true l with
  | none => rw [e] at h; cases h
  | some x =>
    obtain ⟨n, q⟩ := x
    rw [e] at h
    by_cases hn : n ≤ q.length
    · simp only [if_pos hn, Option.some.injEq, Prod.mk.injEq] at h
      exact ⟨n, q, rfl, hn, h.1.symm, h.2.symm⟩
    · simp [if_neg hn] at h
theorem rdText_none {l : List UInt8} (h : rdText l = none) : rdNum 9 true l = none ∨ ∃ n q, rdNum 9 true l = some (n, q) ∧ q.length < n := by
  unfold rdText at h
  cases e : rdNum 9 true l with
  | none => exact .inl rfl
  | some x =>
    obtain ⟨n, q⟩ := x
    rw [e] at h
    by_cases hn : n ≤ q.length
    · simp [if_pos hn] at h
    · exact .inr ⟨n, q, rfl, by omega⟩

def TextYes (w : World) (p : Nat) (go : Option Nat) (t r : List UInt8) (e : Ending) (w' : World) : Prop :=
  ∃ ao c, e = .returned (.slice ao t.length c) ∧ RB w' (.slice ao t.length c) t ∧ RD w' p go r false ∧ w.grownBy w' (some p) ∧ (∀ k, (Value.slice ao t.length c).ownBlock = some k → go = some k)
def TextNo (w : World) (p : Nat) (go : Option Nat) (e : Ending) (w' : World) : Prop :=
  e = .returned (.slice none 0 0) ∧ (∃ l', RD w' p go l' true) ∧ w.grownBy w' (some p)

theorem RD.chg {F : Nat → Prop} {w w' : World} {p : Nat} {go : Option Nat} {l : List UInt8} {bad : Bool} (h : RD w p go l bad) (hc : Chg F w w') (hp : ¬ F p) (hg : ∀ k, go = some k → ¬ F k) : RD w' p go l bad :=
  h.kept hc.size fun k hk hk2 => hc.block k hk (by rcases hk2 with rfl | hk2; exact hp; exact hg k hk2)
theorem RD.alloc {w : World} {p : Nat} {go : Option Nat} {l : List UInt8} {bad : Bool} (h : RD w p go l bad) (o : Obj) : RD (w.alloc o) p go l bad := h.below ((Below.refl _ w).alloc (Nat.le_refl _) o)

end Go.Proofs.Ytebnllpcagkkbaa
