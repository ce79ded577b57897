/- AllocOne: the plain law. -/
import Derived.Test.YtcgjkgcafkcgoaaAlc
namespace Go.Proofs.Ytcgjkgcafkcgoaa
open Go.RowKit
set_option linter.unusedVariables false
set_option linter.unusedSimpArgs false

theorem count_setg : ∀ (R : List Int) (n : Nat) (hn : n < R.length) (x v : Int), (R.set n x).count v + (if R[n] = v then 1 else 0) = R.count v + (if x = v then 1 else 0)
  | a :: R, 0, _, x, v => by
    simp only [List.set_cons_zero, List.getElem_cons_zero, List.count_cons, beq_iff_eq]
    omega
  | a :: R, n + 1, hn, x, v => by
    have := count_setg R n (by simpa using hn) x v
    simp only [List.set_cons_succ, List.getElem_cons_succ, List.count_cons, beq_iff_eq]
    omega
def lowc (R : List Int) (r : Nat) : Nat := R.countP fun (x : Int) => decide (0 ≤ x ∧ x < (r : Int))
theorem lowc_succ (R : List Int) (r : Nat) : lowc R (r + 1) = lowc R r + R.count (r : Int) := by
  unfold lowc
  induction R with
  | nil => rfl
  | cons a R ih =>
    simp only [List.countP_cons, List.count_cons, decide_eq_true_eq, beq_iff_eq]
    rw [ih]
    by_cases h1 : 0 ≤ a ∧ a < (r : Int)
    · rw [if_pos h1, if_pos (by omega), if_neg (by omega)]; omega
    · rw [if_neg h1]
      by_cases h2 : a = r
      · rw [if_pos h2, if_pos (by omega)]; omega
      · rw [if_neg h2, if_neg (by omega)]; omega
theorem lowc_zero (R : List Int) : lowc R 0 = 0 := by
  unfold lowc
  rw [List.countP_eq_zero]
  intro x _ h
  have := of_decide_eq_true h
  omega
theorem lowc_le (R : List Int) (r : Nat) : lowc R r ≤ R.length := List.countP_le_length
/-- roles, holders, queue -/
structure AInv (N : Nat) (R : List Int) (hs : List Bool) (Q : List Int) : Prop where
  len : R.length = N
  hl : hs.length = N
  val : ∀ i (h : i < R.length), 0 ≤ R[i] ∧ R[i] ≤ 6
  has : ∀ i (h : i < R.length) (h2 : i < hs.length), hs[i] = decide (R[i] ≠ 0)
  q : ∀ z ∈ Q, ∃ n : Nat, ∃ h : n < R.length, z = n ∧ R[n] = 6
  nd : Q.Nodup
  cnt : Q.length = R.count 6
theorem AInv.all {N : Nat} {R : List Int} {hs : List Bool} {Q : List Int} (h : AInv N R hs Q) : lowc R 7 = N := by
  rw [← h.len]
  unfold lowc
  rw [List.countP_eq_length]
  intro x hx
  obtain ⟨i, hi, rfl⟩ := List.getElem_of_mem hx
  have := h.val i hi
  exact decide_eq_true (by omega)
/-- a free zone is taken -/
theorem AInv.take {N : Nat} {R : List Int} {hs : List Bool} {Q : List Int} (h : AInv N R hs Q) (n : Nat) (hn : n < R.length) (h0 : R[n] = 0) (x : Int) (hx : 1 ≤ x ∧ x ≤ 5) : AInv N (R.set n x) (hs.set n true) Q := by
  refine ⟨by rw [List.length_set]; exact h.len, by rw [List.length_set]; exact h.hl, fun i hi => ?_, fun i hi h2 => ?_, fun z hz => ?_, h.nd, ?_⟩
  · rw [List.getElem_set]; split
    · omega
    · exact h.val i (by simpa using hi)
  · rw [List.getElem_set, List.getElem_set]
    split
    · exact (decide_eq_true (by omega)).symm
    · exact h.has i (by simpa using hi) (by simpa using h2)
  · obtain ⟨m, hm, e, h6⟩ := h.q z hz
    refine ⟨m, by simpa using hm, e, ?_⟩
    rw [List.getElem_set]
    split
    · rename_i e2; subst e2; omega
    · exact h6
  · have := count_setg R n hn x 6
    rw [if_neg (by omega), if_neg (by omega)] at this
    rw [h.cnt]; omega
/-- a zone is released -/
theorem AInv.release {N : Nat} {R : List Int} {hs : List Bool} {Q : List Int} (h : AInv N R hs Q) (n : Nat) (hn : n < R.length) (hu : 1 ≤ R[n] ∧ R[n] ≤ 5) : AInv N (R.set n 6) hs (Q ++ [(n : Int)]) := by
  refine ⟨by rw [List.length_set]; exact h.len, h.hl, fun i hi => ?_, fun i hi h2 => ?_, fun z hz => ?_, ?_, ?_⟩
  · rw [List.getElem_set]; split
    · omega
    · exact h.val i (by simpa using hi)
  · have h3 := h.has i (by simpa using hi) h2
    rw [h3, List.getElem_set]
    split
    · rename_i e2; subst e2
      rw [decide_eq_true (by omega), decide_eq_true (by decide)]
    · rfl
  · rcases List.mem_append.1 hz with h1 | h1
    · obtain ⟨m, hm, e, h6⟩ := h.q z h1
      refine ⟨m, by simpa using hm, e, ?_⟩
      rw [List.getElem_set]
      split
      · rfl
      · exact h6
    · rw [List.mem_singleton] at h1
      exact ⟨n, by simpa using hn, h1, by rw [List.getElem_set_self]⟩
  · rw [List.nodup_append]
    refine ⟨h.nd, by simp, fun a ha b hb e => ?_⟩
    rw [List.mem_singleton] at hb
    obtain ⟨m, hm, e2, h6⟩ := h.q a ha
    have : m = n := by omega
    subst this
    omega
  · have := count_setg R n hn 6 6
    rw [if_neg (by omega), if_pos rfl] at this
    rw [List.length_append, h.cnt, List.length_singleton]; omega
/-- the queue's head is reset -/
theorem AInv.reset {N : Nat} {R : List Int} {hs : List Bool} {Q : List Int} {n : Nat} (h : AInv N R hs ((n : Int) :: Q)) (hn : n < R.length) (h6 : R[n] = 6) : AInv N (R.set n 0) (hs.set n false) Q := by
  have hnd := List.nodup_cons.1 h.nd
  refine ⟨by rw [List.length_set]; exact h.len, by rw [List.length_set]; exact h.hl, fun i hi => ?_, fun i hi h2 => ?_, fun z hz => ?_, hnd.2, ?_⟩
  · rw [List.getElem_set]; split
    · omega
    · exact h.val i (by simpa using hi)
  · rw [List.getElem_set, List.getElem_set]
    split
    · rfl
    · exact h.has i (by simpa using hi) (by simpa using h2)
  · obtain ⟨m, hm, e, h7⟩ := h.q z (List.mem_cons_of_mem _ hz)
    refine ⟨m, by simpa using hm, e, ?_⟩
    rw [List.getElem_set]
    split
    · rename_i e2; subst e2; subst e; exact absurd hz hnd.1
    · exact h7
  · have := count_setg R n hn 0 6
    rw [if_pos h6, if_neg (by decide)] at this
    have h8 := h.cnt
    rw [List.length_cons] at h8
    omega
theorem AInv.ndat {N : Nat} {R : List Int} {hs : List Bool} {Q : List Int} (h : AInv N R hs Q) (i j : Nat) (hi : i < Q.length) (hj : j < Q.length) (hij : j < i) : Q[j] ≠ Q[i] := by
  have := List.pairwise_iff_getElem.1 h.nd j i hj hi hij
  exact this
theorem ainv0 (N : Nat) : AInv N (List.replicate N 0) (List.replicate N false) [] :=
  ⟨by simp, by simp, fun i hi => by simp, fun i hi h2 => by simp, fun z hz => by simp at hz, List.nodup_nil, by simp [List.count_replicate]⟩
end Go.Proofs.Ytcgjkgcafkcgoaa
