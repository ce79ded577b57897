/- ZoneOpens: the plain law. -/
import Derived.Test.YtcgjkgcafkcgoaaZl
namespace Go.Proofs.Ytcgjkgcafkcgoaa
set_option linter.unusedVariables false
set_option linter.unusedSimpArgs false

/-- what stays true of a device -/
structure ZInv (D : Dv) : Prop where
  emp : ∀ z ∈ D.A, z.st = 0 → z.b = []
  opn : zopn D.A ≤ D.op
theorem zopn_set (A : List Zn) (k : Nat) (hk : k < A.length) (a : Zn) : zopn (A.set k a) + (if A[k].st = 1 then 1 else 0) = zopn A + (if a.st = 1 then 1 else 0) := by
  induction A generalizing k with
  | nil => simp at hk
  | cons x A ih =>
    cases k with
    | zero =>
      simp only [List.set_cons_zero, List.getElem_cons_zero, zopn, List.countP_cons, beq_iff_eq]
      omega
    | succ k =>
      have := ih k (by simpa using hk)
      simp only [List.set_cons_succ, List.getElem_cons_succ, zopn, List.countP_cons, beq_iff_eq] at this ⊢
      omega
theorem zopn_map {A : List Zn} {g : Nat → Zn → Zn} (hg : ∀ i z, z ∈ A → (g i z).st = 1 → z.st = 1) : zopn (A.mapIdx g) ≤ zopn A := by
  induction A generalizing g with
  | nil => simp [zopn]
  | cons x A ih =>
    rw [List.mapIdx_cons]
    have h1 := ih (g := fun i => g (i + 1)) (fun i z hz h => hg (i + 1) z (List.mem_cons_of_mem _ hz) h)
    have h2 := hg 0 x (List.mem_cons_self)
    simp only [zopn, List.countP_cons, beq_iff_eq] at h1 ⊢
    by_cases h3 : (g 0 x).st = 1
    · rw [if_pos h3, if_pos (h2 h3)]; omega
    · rw [if_neg h3]; omega
theorem zcmd_inv {D : Dv} (h : ZInv D) : ZInv (zcmd D).1 := by
  obtain ⟨_, h1, h2, h3, h4⟩ := zcmd_two D
  exact ⟨by rw [h1]; exact h.emp, by rw [h1, h4]; exact h.opn⟩
structure ZStep (D D' : Dv) : Prop where
  inv : ZInv D'
  n : D'.n = D.n
  size : D'.size = D.size
  op : D'.op = D.op
  done : D'.done ≤ D.done + 1
theorem ZStep.refl {D : Dv} (h : ZInv D) : ZStep D D := ⟨h, rfl, rfl, rfl, Nat.le_succ _⟩
theorem zcmd_step {D : Dv} (h : ZInv D) : ZStep D (zcmd D).1 := by
  obtain ⟨_, h1, h2, h3, h4⟩ := zcmd_two D
  refine ⟨zcmd_inv h, h2, h3, h4, ?_⟩
  unfold zcmd; split
  · exact Nat.le_succ _
  · exact Nat.le_refl _
theorem zthen_step {D : Dv} (h : ZInv D) (f : Dv → Dv) (hf : ∀ D', ZStep D D' → D'.A = D.A → ZStep D (f D')) : ZStep D (zthen D f).1 := by
  have h1 := zcmd_step h
  unfold zthen
  split
  · exact hf _ h1 (zcmd_two D).2.1
  · exact h1
theorem zset_inv {D : Dv} (h : ZInv D) (k : Nat) (a : Zn) (ha : a.st = 0 → a.b = []) (ho : a.st = 1 → (∀ hk : k < D.A.length, D.A[k].st = 1 ∨ zopn D.A < D.op)) : ZInv { D with A := D.A.set k a } := by
  refine ⟨fun z hz => ?_, ?_⟩
  · rcases List.mem_or_eq_of_mem_set hz with h1 | rfl
    · exact h.emp z h1
    · exact ha
  · show zopn (D.A.set k a) ≤ D.op
    by_cases hk : k < D.A.length
    · have h1 := zopn_set D.A k hk a
      have h2 := h.opn
      by_cases h3 : a.st = 1
      · rw [if_pos h3] at h1
        rcases ho h3 hk with h4 | h4
        · rw [if_pos h4] at h1; omega
        · split at h1 <;> omega
      · rw [if_neg h3] at h1; omega
    · rw [List.set_eq_of_length_le (by omega)]; exact h.opn
theorem zapp_step {D : Dv} (h : ZInv D) (hok : DvOk D) (z : Int) (m : List UInt8) : ZStep D (zapp D z m).1 := by
  unfold zapp
  split
  · exact ZStep.refl h
  · split
    · rename_i hz
      unfold zappA
      split
      · exact ZStep.refl h
      · rename_i h2
        split
        · exact ZStep.refl h
        · rename_i h3
          split
          · exact ZStep.refl h
          · rename_i h4
            have hst := (hok.zs _ (List.getElem_mem hz)).st
            have := zcmd_step (D := { D with A := D.A.set z.toNat ⟨if D.A[z.toNat].b.length + m.length = D.size then 2 else 1, D.A[z.toNat].b ++ m, D.A[z.toNat].fl⟩ }) (zset_inv h _ _ (fun e => by simp only at e; split at e <;> omega) (fun _ hk => by
              by_cases h5 : D.A[z.toNat].st = 1
              · exact .inl h5
              · refine .inr ?_
                have : D.A[z.toNat].st = 0 := by omega
                have h6 : ¬ D.op ≤ zopn D.A := fun h7 => h3 ⟨this, h7⟩
                omega))
            exact ⟨this.inv, this.n, this.size, this.op, this.done⟩
    · exact ZStep.refl h
theorem zrst_step {D : Dv} (h : ZInv D) (z : Int) : ZStep D (zrst D z).1 := by
  unfold zrst
  split
  · exact ZStep.refl h
  · exact zthen_step h _ fun D' hD hA => ⟨zset_inv hD.inv _ _ (fun _ => rfl) (fun e => by cases e), hD.n, hD.size, hD.op, hD.done⟩
theorem zfin_step {D : Dv} (h : ZInv D) (z : Int) : ZStep D (zfin D z).1 := by
  unfold zfin
  split
  · exact ZStep.refl h
  · split
    · split
      · exact ZStep.refl h
      · exact zthen_step h _ fun D' hD hA => ⟨zset_inv hD.inv _ _ (fun e => by cases e) (fun e => by cases e), hD.n, hD.size, hD.op, hD.done⟩
    · exact ZStep.refl h
theorem zflu_step {D : Dv} (h : ZInv D) : ZStep D (zflu D).1 := by
  unfold zflu
  split
  · exact ZStep.refl h
  · refine zthen_step h _ fun D' hD hA => ⟨⟨fun z hz => ?_, ?_⟩, hD.n, hD.size, hD.op, hD.done⟩
    · obtain ⟨i, hi, rfl⟩ := List.mem_mapIdx.1 hz
      intro e
      exact hD.inv.emp D'.A[i] (List.getElem_mem hi) e
    · exact Nat.le_trans (zopn_map fun i z hz e => e) hD.inv.opn
theorem zarm_step {D : Dv} (h : ZInv D) (n : Int) : ZStep D (zarmd D n) := ⟨⟨h.emp, h.opn⟩, rfl, rfl, rfl, Nat.le_succ _⟩
theorem zcrs_step {D : Dv} (h : ZInv D) (hok : DvOk D) (keep : List Int) : ZStep D (zcrs D keep) := by
  refine ⟨⟨fun z hz => ?_, ?_⟩, rfl, rfl, rfl, Nat.le_succ _⟩
  · obtain ⟨i, hi, rfl⟩ := List.mem_mapIdx.1 hz
    intro e
    simp only [zcut] at e ⊢
    split at e
    · rename_i h0; rw [h0]; rfl
    · split at e <;> omega
  · refine Nat.le_trans (zopn_map fun i z hz e => ?_) h.opn
    have hz2 := hok.zs z hz
    have h1 := hz2.st
    have h3 := hz2.fl
    have h4 := zmore_le keep i z h3
    simp only [zcut] at e
    split at e
    · omega
    · rename_i hn
      split at e
      · omega
      · rename_i h2
        by_cases h5 : z.st = 0
        · have := h.emp z hz h5
          rw [this] at h4
          simp only [List.length_nil] at h4
          omega
        · have : z.st ≠ 2 := fun e2 => h2 (.inr e2)
          omega
theorem zst_at {D : Dv} (m : Nat) (h : m < D.A.length) : zst D (m : Nat) = (D.A[m].st : Nat) := by unfold zst; rw [dif_pos ⟨by omega, by simpa using h⟩]; rfl
theorem zpt_at {D : Dv} (m : Nat) (h : m < D.A.length) : zpt D (m : Nat) = (D.A[m].b.length : Nat) := by unfold zpt; rw [dif_pos ⟨by omega, by simpa using h⟩]; rfl
theorem zfl_at {D : Dv} (m : Nat) (h : m < D.A.length) : zfl D (m : Nat) = (D.A[m].fl : Nat) := by unfold zfl; rw [dif_pos ⟨by omega, by simpa using h⟩]; rfl
theorem zapp_full {D : Dv} {z : Int} {m : List UInt8} (h : zst D z = 2) : (zapp D z m).1 = D ∧ ((zapp D z m).2 == 0) = false := by
  unfold zapp
  split
  · rename_i h1; exact ⟨rfl, by rw [beq_eq_false_iff_ne]; exact h1⟩
  · split
    · rename_i hz
      unfold zst at h
      split at h
      · have : D.A[z.toNat].st = 2 := by omega
        unfold zappA
        rw [if_pos this]
        exact ⟨rfl, rfl⟩
      · omega
    · exact ⟨rfl, rfl⟩
end Go.Proofs.Ytcgjkgcafkcgoaa
