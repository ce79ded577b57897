/- A device of zones: Flush, Crash. -/
import Derived.Test.YtcgjkgcafkcgoaaZf
namespace Go.Proofs.Ytcgjkgcafkcgoaa
open Go.RowKit
set_option linter.unusedVariables false
set_option linter.unusedSimpArgs false

/-- the first n have turned -/
def zpm (g : Nat → Zn → Zn) (A : List Zn) (n : Nat) : List Zn := A.mapIdx fun i x => if i < n then g i x else x
theorem zpm_len (g : Nat → Zn → Zn) (A : List Zn) (n : Nat) : (zpm g A n).length = A.length := by simp [zpm]
theorem zpm_zero (g : Nat → Zn → Zn) (A : List Zn) : zpm g A 0 = A := List.ext_getElem (by simp [zpm]) fun i h1 h2 => by simp [zpm]
theorem zpm_at (g : Nat → Zn → Zn) (A : List Zn) (n : Nat) (h : n < A.length) : (zpm g A n)[n]'(by rw [zpm_len]; exact h) = A[n] := by simp [zpm]
theorem zpm_set (g : Nat → Zn → Zn) (A : List Zn) (n : Nat) (h : n < A.length) : (zpm g A n).set n (g n A[n]) = zpm g A (n + 1) := by
  refine List.ext_getElem (by simp [zpm]) fun i h1 h2 => ?_
  rw [List.getElem_set]
  by_cases e : n = i
  · subst e; rw [if_pos rfl]; simp [zpm]
  · rw [if_neg e]
    simp only [zpm, List.getElem_mapIdx]
    by_cases h3 : i < n
    · rw [if_pos h3, if_pos (by omega)]
    · rw [if_neg h3, if_neg (by omega)]
theorem zpm_all (g : Nat → Zn → Zn) (A : List Zn) (n : Nat) (h : A.length ≤ n) : zpm g A n = A.mapIdx g := by
  refine List.ext_getElem (by simp [zpm]) fun i h1 h2 => ?_
  rw [zpm_len] at h1
  simp only [zpm, List.getElem_mapIdx]
  rw [if_pos (by omega)]
def zflz (_ : Nat) (z : Zn) : Zn := ⟨z.st, z.b, z.b.length⟩
def zflu (D : Dv) : Dv × Int := if D.down = true then (D, 74) else zthen D fun D' => { D' with A := D'.A.mapIdx zflz }
end Go.Proofs.Ytcgjkgcafkcgoaa
