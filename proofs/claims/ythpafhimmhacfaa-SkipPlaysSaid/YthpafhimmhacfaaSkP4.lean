/- While a new node is put in: the next rows, level by level. -/
import Derived.Test.YthpafhimmhacfaaSkP2
namespace Go.Proofs.Ythpafhimmhacfaa
open Go.RowKit
set_option linter.unusedVariables false
set_option linter.unusedSimpArgs false
section
variable {κ : Type}
/-- the next row of old node i when the levels below j are done -/
def nxJ (T : List (SE κ)) (c : Nat) (n : SE κ) (j i ht : Nat) : List Value := (List.range ht).map fun h => Value.int .i64 (((if h < j then fid (tailI T c n i) h else fid (T.drop (i + 1)) h : Nat) : Nat) : Int)
theorem nxJ_zero (T : List (SE κ)) (c : Nat) (n : SE κ) (i ht : Nat) : nxJ T c n 0 i ht = nxs (T.drop (i + 1)) ht := by
  unfold nxJ nxs
  refine List.map_congr_left fun h _ => ?_
  rw [if_neg (by omega)]
theorem nxJ_len (T : List (SE κ)) (c : Nat) (n : SE κ) (j i ht : Nat) : (nxJ T c n j i ht).length = ht := by simp [nxJ]
theorem nxJ_at (T : List (SE κ)) (c : Nat) (n : SE κ) (j i ht h : Nat) (hh : h < ht) : (nxJ T c n j i ht)[h]? = some (Value.int .i64 (((if h < j then fid (tailI T c n i) h else fid (T.drop (i + 1)) h : Nat) : Nat) : Int)) := by
  unfold nxJ
  rw [List.getElem?_map, List.getElem?_range hh]; rfl
/-- at the end of it -/
theorem nxJ_end (T : List (SE κ)) (c : Nat) (n : SE κ) (i ht : Nat) (hc : c ≤ T.length) : nxJ T c n n.ht i ht = nxs (tailI T c n i) ht := by
  unfold nxJ nxs
  refine List.map_congr_left fun h _ => ?_
  by_cases hh : h < n.ht
  · rw [if_pos hh]
  · rw [if_neg hh]
    by_cases hi : i < c
    · by_cases hx : ∃ j, ∃ hj : j < T.length, i < j ∧ j < c ∧ h < T[j].ht
      · rw [ins_some hi hc hx]
      · obtain ⟨e1, e2⟩ := ins_none (n := n) (h := h) hi hc (fun j hj h1 h2 => by
          rcases Nat.lt_or_ge h T[j].ht with h3 | h3
          · exact absurd ⟨j, hj, h1, h2, h3⟩ hx
          · exact h3)
        rw [e1, e2, if_neg hh]
    · unfold tailI; rw [if_neg hi]
/-- one level more: just the node at which the search ended has another next -/
theorem nxJ_step_other (T : List (SE κ)) (c : Nat) (n : SE κ) (j i ht : Nat) (h : fid (tailI T c n i) j = fid (T.drop (i + 1)) j) : nxJ T c n (j + 1) i ht = nxJ T c n j i ht := by
  unfold nxJ
  refine List.map_congr_left fun x _ => ?_
  by_cases e : x = j
  · subst e; rw [if_pos (by omega), if_neg (by omega), h]
  · by_cases hx : x < j
    · rw [if_pos (by omega), if_pos hx]
    · rw [if_neg (by omega), if_neg hx]
theorem nxJ_step_set (T : List (SE κ)) (c : Nat) (n : SE κ) (j i ht : Nat) (hj : j < ht) : nxJ T c n (j + 1) i ht = (nxJ T c n j i ht).set j (.int .i64 (fid (tailI T c n i) j : Nat)) := by
  refine List.ext_getElem? fun x => ?_
  by_cases hx : x < ht
  · rw [nxJ_at T c n (j + 1) i ht x hx]
    by_cases e : x = j
    · subst e
      rw [List.getElem?_set_self (by rw [nxJ_len]; exact hx), if_pos (by omega)]
    · rw [List.getElem?_set_ne (fun h => e h.symm), nxJ_at T c n j i ht x hx]
      by_cases hxj : x < j
      · rw [if_pos (by omega), if_pos hxj]
      · rw [if_neg (by omega), if_neg hxj]
  · rw [List.getElem?_eq_none (by rw [nxJ_len]; omega), List.getElem?_eq_none (by rw [List.length_set, nxJ_len]; omega)]
end
end Go.Proofs.Ythpafhimmhacfaa
