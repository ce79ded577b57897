/- A node is put in between: plain laws. -/
import Derived.Test.YthpafhimmhacfaaSkC
namespace Go.Proofs.Ythpafhimmhacfaa
open Go.RowKit
set_option linter.unusedVariables false
set_option linter.unusedSimpArgs false

section
variable {κ : Type}
def insT (T : List (SE κ)) (c : Nat) (n : SE κ) : List (SE κ) := T.take c ++ n :: T.drop c
/-- what stands behind node i of the old ones -/
def tailI (T : List (SE κ)) (c : Nat) (n : SE κ) (i : Nat) : List (SE κ) := if i < c then (T.take c).drop (i + 1) ++ n :: T.drop c else T.drop (i + 1)
theorem drop_split (T : List (SE κ)) {i c : Nat} (h : i + 1 ≤ c) (hc : c ≤ T.length) : T.drop (i + 1) = (T.take c).drop (i + 1) ++ T.drop c := by
  have h1 : T.drop (i + 1) = (T.take c ++ T.drop c).drop (i + 1) := by rw [List.take_append_drop]
  rw [h1, List.drop_append_of_le_length (by rw [List.length_take]; omega)]
theorem mid_mem {T : List (SE κ)} {i c : Nat} {e : SE κ} (hc : c ≤ T.length) (he : e ∈ (T.take c).drop (i + 1)) : ∃ j, ∃ hj : j < T.length, i < j ∧ j < c ∧ T[j] = e := by
  obtain ⟨m, hm, rfl⟩ := List.getElem_of_mem he
  rw [List.length_drop, List.length_take] at hm
  refine ⟨i + 1 + m, by omega, by omega, by omega, ?_⟩
  simp
theorem ins_none {T : List (SE κ)} {i c h : Nat} {n : SE κ} (hi : i < c) (hc : c ≤ T.length) (hx : ∀ j (hj : j < T.length), i < j → j < c → T[j].ht ≤ h) :
    fid (T.drop (i + 1)) h = fid (T.drop c) h ∧ fid (tailI T c n i) h = if h < n.ht then n.id else fid (T.drop c) h := by
  have hall : ∀ e ∈ (T.take c).drop (i + 1), e.ht ≤ h := fun e he => by
    obtain ⟨j, hj, h1, h2, rfl⟩ := mid_mem hc he
    exact hx j hj h1 h2
  unfold tailI
  rw [if_pos hi, drop_split T hi hc, fid_append_none _ _ _ hall, fid_append_none _ _ _ hall]
  exact ⟨rfl, rfl⟩
theorem ins_some {T : List (SE κ)} {i c h : Nat} {n : SE κ} (hi : i < c) (hc : c ≤ T.length) (hx : ∃ j, ∃ hj : j < T.length, i < j ∧ j < c ∧ h < T[j].ht) :
    fid (tailI T c n i) h = fid (T.drop (i + 1)) h := by
  obtain ⟨j, hj, h1, h2, h3⟩ := hx
  have hex : ∃ e ∈ (T.take c).drop (i + 1), h < e.ht := by
    refine ⟨T[j], ?_, h3⟩
    rw [List.mem_iff_getElem]
    refine ⟨j - (i + 1), by rw [List.length_drop, List.length_take]; omega, ?_⟩
    simp [show i + 1 + (j - (i + 1)) = j by omega]
  unfold tailI
  rw [if_pos hi, drop_split T hi hc, fid_append_some _ _ _ hex, fid_append_some _ _ _ hex]
theorem insT_len (T : List (SE κ)) (c : Nat) (n : SE κ) (hc : c ≤ T.length) : (insT T c n).length = T.length + 1 := by
  unfold insT
  rw [List.length_append, List.length_cons, List.length_take, List.length_drop]; omega
/-- behind the new one, and behind the old ones in their new places -/
theorem insT_drop_new (T : List (SE κ)) (c : Nat) (n : SE κ) (hc : c ≤ T.length) : (insT T c n).drop (c + 1) = T.drop c := by
  unfold insT
  rw [show c + 1 = (T.take c).length + 1 by rw [List.length_take]; omega, List.drop_append, List.drop_of_length_le (by omega)]
  simp
theorem insT_drop_old (T : List (SE κ)) (c : Nat) (n : SE κ) (hc : c ≤ T.length) (i : Nat) : (insT T c n).drop ((if i < c then i else i + 1) + 1) = tailI T c n i := by
  unfold tailI
  by_cases h : i < c
  · rw [if_pos h, if_pos h]
    unfold insT
    rw [List.drop_append_of_le_length (by rw [List.length_take]; omega)]
  · rw [if_neg h, if_neg h, show i + 1 + 1 = c + 1 + (i + 1 - c) by omega, ← List.drop_drop, insT_drop_new T c n hc, List.drop_drop, show c + (i + 1 - c) = i + 1 by omega]
theorem insT_get_new (T : List (SE κ)) (c : Nat) (n : SE κ) (hc : c ≤ T.length) : (insT T c n)[c]? = some n := by
  unfold insT
  rw [List.getElem?_append_right (by rw [List.length_take]; omega), List.length_take, show c - min c T.length = 0 by omega]; rfl
theorem insT_get_old (T : List (SE κ)) (c : Nat) (n : SE κ) (hc : c ≤ T.length) (i : Nat) : (insT T c n)[if i < c then i else i + 1]? = T[i]? := by
  unfold insT
  by_cases h : i < c
  · rw [if_pos h, List.getElem?_append_left (by rw [List.length_take]; omega), List.getElem?_take, if_pos h]
  · rw [if_neg h, List.getElem?_append_right (by rw [List.length_take]; omega), List.length_take, show i + 1 - min c T.length = (i - c) + 1 by omega, List.getElem?_cons_succ, List.getElem?_drop, show c + (i - c) = i by omega]
end
end Go.Proofs.Ythpafhimmhacfaa
