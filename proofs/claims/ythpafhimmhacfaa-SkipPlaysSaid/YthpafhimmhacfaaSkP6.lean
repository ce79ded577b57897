/- The end of Put: the new node stands in the row. -/
import Derived.Test.YthpafhimmhacfaaSkP5
namespace Go.Proofs.Ythpafhimmhacfaa
open Go.RowKit
set_option linter.unusedVariables false
set_option linter.unusedSimpArgs false
section
variable {κ : Type}
/-- each node of insT is the new one, or an old one in its new place -/
theorem insT_cases (T : List (SE κ)) (c : Nat) (n : SE κ) (hc : c ≤ T.length) (x : Nat) (hx : x < (insT T c n).length) :
    (x = c ∧ (insT T c n)[x] = n ∧ (insT T c n).drop (x + 1) = T.drop c) ∨ (∃ i, ∃ hi : i < T.length, x = (if i < c then i else i + 1) ∧ (insT T c n)[x] = T[i] ∧ (insT T c n).drop (x + 1) = tailI T c n i) := by
  have hl := insT_len T c n hc
  by_cases e : x = c
  · subst e
    refine .inl ⟨rfl, ?_, insT_drop_new T x n hc⟩
    have h := insT_get_new T x n hc
    rw [List.getElem?_eq_getElem hx] at h
    simpa using h
  · have key : ∀ i, i < T.length → x = (if i < c then i else i + 1) → (∃ i, ∃ hi : i < T.length, x = (if i < c then i else i + 1) ∧ (insT T c n)[x] = T[i] ∧ (insT T c n).drop (x + 1) = tailI T c n i) := fun i hi he => by
      subst he
      refine ⟨i, hi, rfl, ?_, insT_drop_old T c n hc i⟩
      have h := insT_get_old T c n hc i
      rw [List.getElem?_eq_getElem hx, List.getElem?_eq_getElem hi] at h
      simpa using h
    right
    by_cases h : x < c
    · exact key x (by omega) (by rw [if_pos h])
    · exact key (x - 1) (by omega) (by rw [if_neg (by omega)]; omega)
end
end Go.Proofs.Ythpafhimmhacfaa
