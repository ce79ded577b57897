/- (*skip.List).before: where a search ends at each level. -/
import Derived.Test.YthpafhimmhacfaaSkM
namespace Go.Proofs.Ythpafhimmhacfaa
open Go.RowKit
set_option linter.unusedVariables false
set_option linter.unusedSimpArgs false

def ilt (a b : Int) : Bool := decide (a < b)
theorem ilt_ord : KOrd ilt := ⟨fun a => by simp [ilt], fun a b c h1 h2 => by simp [ilt] at *; omega, fun a b => by simp [ilt]; omega⟩
section
variable {κ : Type}
/-- the head is below all -/
def TRise (lt : κ → κ → Bool) (T : List (SE κ)) : Prop := ∀ i j (hi : i < T.length) (hj : j < T.length), 0 < i → i < j → lt T[i].key T[j].key = true
def bvals (bs : List Nat) : List Value := bs.map fun n => Value.int .i64 ((n : Nat) : Int)
/-- the places that were found: one for each of the levels from n on -/
def Found (lt : κ → κ → Bool) (T : List (SE κ)) (k : κ) (n : Nat) (bs : List Nat) : Prop :=
  bs.length + n = 12 ∧ ∀ h (hh : h < bs.length), ∃ i, ∃ hi : i < T.length, PredAt' lt T k (n + h) i ∧ bs[h] = T[i].id
theorem Found.cons {lt : κ → κ → Bool} {T : List (SE κ)} {k : κ} {m i : Nat} {bs : List Nat} (h : Found lt T k (m + 1) bs) (hi : i < T.length) (hp : PredAt' lt T k m i) : Found lt T k m (T[i].id :: bs) := by
  refine ⟨by rw [List.length_cons]; have := h.1; omega, fun x hx => ?_⟩
  cases x with
  | zero => exact ⟨i, hi, hp, rfl⟩
  | succ x =>
    obtain ⟨j, hj, h1, h2⟩ := h.2 x (by simpa using hx)
    exact ⟨j, hj, by rw [show m + (x + 1) = m + 1 + x by omega]; exact h1, by simpa using h2⟩
theorem predAt_end {lt : κ → κ → Bool} (o : KOrd lt) {T : List (SE κ)} (hr : TRise lt T) {k : κ} {m i : Nat} (hi : i < T.length) (hh : m < T[i].ht) (hb : i = 0 ∨ lt T[i].key k = true)
    (hx : (∃ j, ∃ hj : j < T.length, i < j ∧ lt T[j].key k = false ∧ ∀ x (hx : x < T.length), i < x → x < j → T[x].ht ≤ m) ∨ (∀ x (hx : x < T.length), i < x → T[x].ht ≤ m)) : PredAt' lt T k m i := by
  refine ⟨hi, hh, hb, fun x hxl hix hmx => ?_⟩
  rcases hx with ⟨j, hj, hij, hkj, hbet⟩ | hall
  · by_cases h1 : x < j
    · have := hbet x hxl hix h1; omega
    · by_cases h2 : x = j
      · subst h2; exact hkj
      · have h3 := hr j x hj hxl (by omega) (by omega)
        cases h4 : lt T[x].key k with
        | false => rfl
        | true => have := o.trans _ _ _ h3 h4; rw [hkj] at this; cases this
  · have := hall x hxl hix; omega
/-- the next of node i at level m, in places of T -/
theorem next_cases (T : List (SE κ)) (i m : Nat) (hi : i < T.length) :
    (∃ j, ∃ hj : j < T.length, i < j ∧ m < T[j].ht ∧ fid (T.drop (i + 1)) m = T[j].id ∧ ∀ x (hx : x < T.length), i < x → x < j → T[x].ht ≤ m) ∨ (fid (T.drop (i + 1)) m = 0 ∧ ∀ x (hx : x < T.length), i < x → T[x].ht ≤ m) := by
  rcases fid_cases (T.drop (i + 1)) m with ⟨j, hj, h1, h2, h3⟩ | ⟨h1, h2⟩
  · rw [List.length_drop] at hj
    rw [List.getElem_drop] at h1 h2
    refine .inl ⟨i + 1 + j, by omega, by omega, h1, h2, fun x hx hix hxj => ?_⟩
    have := h3 (x - (i + 1)) (by rw [List.length_drop]; omega) (by omega)
    rw [List.getElem_drop] at this
    have e : i + 1 + (x - (i + 1)) = x := by omega
    simp only [e] at this
    exact this
  · refine .inr ⟨h1, fun x hx hix => ?_⟩
    have := h2 (x - (i + 1)) (by rw [List.length_drop]; omega)
    rw [List.getElem_drop] at this
    have e : i + 1 + (x - (i + 1)) = x := by omega
    simp only [e] at this
    exact this
end
end Go.Proofs.Ythpafhimmhacfaa
