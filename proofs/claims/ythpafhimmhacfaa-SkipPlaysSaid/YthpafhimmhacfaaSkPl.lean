/- A sorted list with towers: plain laws. -/
import Derived.Test.YthpafhimmhacfaaBase
namespace Go.Proofs.Ythpafhimmhacfaa
open Go.RowKit
set_option linter.unusedVariables false
set_option linter.unusedSimpArgs false

/-- a node: its key, value, height, place in the row, block of its next slice -/
structure SE (κ : Type) where
  key : κ
  val : Value
  ht : Nat
  id : Nat
  blk : Nat
section
variable {κ : Type}
/-- the place of the first whose tower reaches level h; 0: none -/
def fid : List (SE κ) → Nat → Nat
  | [], _ => 0
  | e :: R, h => if h < e.ht then e.id else fid R h
theorem fid_yes {e : SE κ} {R : List (SE κ)} {h : Nat} (hh : h < e.ht) : fid (e :: R) h = e.id := by rw [fid, if_pos hh]
theorem fid_no {e : SE κ} {R : List (SE κ)} {h : Nat} (hh : e.ht ≤ h) : fid (e :: R) h = fid R h := by rw [fid, if_neg (by omega)]
theorem fid_cases : ∀ (R : List (SE κ)) (h : Nat), (∃ j, ∃ hj : j < R.length, h < R[j].ht ∧ fid R h = R[j].id ∧ ∀ m (hm : m < R.length), m < j → R[m].ht ≤ h) ∨ (fid R h = 0 ∧ ∀ m (hm : m < R.length), R[m].ht ≤ h)
  | [], h => .inr ⟨rfl, fun m hm => absurd hm (Nat.not_lt_zero _)⟩
  | e :: R, h => by
    by_cases hh : h < e.ht
    · exact .inl ⟨0, by simp, hh, fid_yes hh, fun m _ hm => absurd hm (Nat.not_lt_zero _)⟩
    · have hh : e.ht ≤ h := by omega
      rw [fid_no hh]
      rcases fid_cases R h with ⟨j, hj, h1, h2, h3⟩ | ⟨h1, h2⟩
      · refine .inl ⟨j + 1, by simpa using hj, by simpa using h1, by simpa using h2, fun m hm hmj => ?_⟩
        cases m with
        | zero => exact hh
        | succ m => simpa using h3 m (by simpa using hm) (by omega)
      · refine .inr ⟨h1, fun m hm => ?_⟩
        cases m with
        | zero => exact hh
        | succ m => simpa using h2 m (by simpa using hm)
theorem fid_append_some : ∀ (A R : List (SE κ)) (h : Nat), (∃ e ∈ A, h < e.ht) → fid (A ++ R) h = fid A h
  | [], R, h, hx => by obtain ⟨e, he, _⟩ := hx; cases he
  | e :: A, R, h, hx => by
    rw [List.cons_append]
    by_cases hh : h < e.ht
    · rw [fid_yes hh, fid_yes hh]
    · have hh : e.ht ≤ h := by omega
      rw [fid_no hh, fid_no hh]
      refine fid_append_some A R h ?_
      obtain ⟨e', he, h1⟩ := hx
      rcases List.mem_cons.1 he with rfl | he
      · omega
      · exact ⟨e', he, h1⟩
theorem fid_append_none : ∀ (A R : List (SE κ)) (h : Nat), (∀ e ∈ A, e.ht ≤ h) → fid (A ++ R) h = fid R h
  | [], R, h, _ => rfl
  | e :: A, R, h, hx => by
    rw [List.cons_append, fid_no (hx e (List.mem_cons_self ..))]
    exact fid_append_none A R h fun e' he => hx e' (List.mem_cons_of_mem _ he)

/-- a strict order that tells any two apart -/
structure KOrd (lt : κ → κ → Bool) : Prop where
  irrefl : ∀ a, lt a a = false
  trans : ∀ a b c, lt a b = true → lt b c = true → lt a c = true
  tri : ∀ a b, lt a b = true ∨ a = b ∨ lt b a = true
theorem KOrd.asym {lt : κ → κ → Bool} (o : KOrd lt) {a b : κ} (h : lt a b = true) : lt b a = false := by
  cases k : lt b a with
  | false => rfl
  | true => have := o.trans _ _ _ h k; rw [o.irrefl] at this; cases this
/-- the keys rise -/
def SRise (lt : κ → κ → Bool) : List (SE κ) → Prop
  | [] => True
  | e :: R => (∀ f ∈ R, lt e.key f.key = true) ∧ SRise lt R
/-- how many keys are below k -/
def cutN (lt : κ → κ → Bool) (k : κ) : List (SE κ) → Nat
  | [] => 0
  | e :: R => if lt e.key k = true then cutN lt k R + 1 else 0
theorem cutN_le (lt : κ → κ → Bool) (k : κ) : ∀ S : List (SE κ), cutN lt k S ≤ S.length
  | [] => Nat.le_refl _
  | e :: R => by have := cutN_le lt k R; unfold cutN; split <;> simp only [List.length_cons] <;> omega
theorem cutN_below {lt : κ → κ → Bool} (k : κ) : ∀ (S : List (SE κ)), ∀ e ∈ S.take (cutN lt k S), lt e.key k = true
  | [], e, he => by cases he
  | f :: R, e, he => by
    unfold cutN at he
    by_cases h : lt f.key k = true
    · rw [if_pos h, List.take_succ_cons] at he
      rcases List.mem_cons.1 he with rfl | he
      · exact h
      · exact cutN_below k R e he
    · rw [if_neg h, List.take_zero] at he; cases he
theorem cutN_above {lt : κ → κ → Bool} (o : KOrd lt) (k : κ) : ∀ (S : List (SE κ)), SRise lt S → ∀ e ∈ S.drop (cutN lt k S), lt e.key k = false
  | [], _, e, he => by cases he
  | f :: R, hs, e, he => by
    unfold cutN at he
    by_cases h : lt f.key k = true
    · rw [if_pos h, List.drop_succ_cons] at he
      exact cutN_above o k R hs.2 e he
    · rw [if_neg h, List.drop_zero] at he
      have hf : lt f.key k = false := by simpa using h
      rcases List.mem_cons.1 he with rfl | he
      · exact hf
      · have h1 := hs.1 e he
        cases h2 : lt e.key k with
        | false => rfl
        | true => have := o.trans _ _ _ h1 h2; rw [hf] at this; cases this
/-- where a search for k ends at level h: node i of the head and the sorted ones -/
def PredAt' (lt : κ → κ → Bool) (T : List (SE κ)) (k : κ) (h i : Nat) : Prop :=
  ∃ hi : i < T.length, h < T[i].ht ∧ (i = 0 ∨ lt T[i].key k = true) ∧ ∀ j (hj : j < T.length), i < j → h < T[j].ht → lt T[j].key k = false
end
end Go.Proofs.Ythpafhimmhacfaa
