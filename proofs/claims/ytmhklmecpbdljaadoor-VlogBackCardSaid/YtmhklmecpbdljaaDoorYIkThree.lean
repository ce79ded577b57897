/- IkeyThree: the order of keys is one: for any three keys the law returns true. -/
import Derived.Test.YtmhklmecpbdljaaDoorYAwake
namespace Go.Proofs.YtmhklmecpbdljaaDoor
open Go.RowKit
set_option linter.unusedVariables false

/-! the order of keys, in plain -/
theorem cmpB_range : ∀ (l m : List UInt8), Lib.compareBytes l m = -1 ∨ Lib.compareBytes l m = 0 ∨ Lib.compareBytes l m = 1
  | [], [] => .inr (.inl rfl)
  | [], _ :: _ => .inl rfl
  | _ :: _, [] => .inr (.inr rfl)
  | a :: l, b :: m => by
    unfold Lib.compareBytes
    split
    · exact .inl rfl
    · split
      · exact .inr (.inr rfl)
      · exact cmpB_range l m
theorem cmpB_refl : ∀ (l : List UInt8), Lib.compareBytes l l = 0
  | [] => rfl
  | a :: l => by unfold Lib.compareBytes; rw [if_neg (UInt8.lt_irrefl a), if_neg (UInt8.lt_irrefl a)]; exact cmpB_refl l
theorem cmpB_eq : ∀ (l m : List UInt8), Lib.compareBytes l m = 0 → l = m
  | [], [], _ => rfl
  | [], _ :: _, h => by simp [Lib.compareBytes] at h
  | _ :: _, [], h => by simp [Lib.compareBytes] at h
  | a :: l, b :: m, h => by
    unfold Lib.compareBytes at h
    split at h
    · cases h
    · split at h
      · cases h
      · rename_i h1 h2
        have : a = b := UInt8.le_antisymm (UInt8.not_lt.1 h2) (UInt8.not_lt.1 h1)
        rw [this, cmpB_eq l m h]
theorem cmpB_trans : ∀ (l m n : List UInt8), Lib.compareBytes l m ≤ 0 → Lib.compareBytes m n ≤ 0 → Lib.compareBytes l n ≤ 0 ∧ (Lib.compareBytes l n = 0 → Lib.compareBytes l m = 0 ∧ Lib.compareBytes m n = 0)
  | [], [], n, _, h => ⟨h, fun e => ⟨rfl, e⟩⟩
  | [], _ :: _, [], _, h => by simp [Lib.compareBytes] at h
  | [], _ :: _, _ :: _, _, _ => by simp [Lib.compareBytes]
  | _ :: _, [], _, h, _ => by simp [Lib.compareBytes] at h
  | _ :: _, _ :: _, [], _, h => by simp [Lib.compareBytes] at h
  | a :: l, b :: m, c :: n, h1, h2 => by
    unfold Lib.compareBytes at h1 h2 ⊢
    have ih := cmpB_trans l m n
    have t1 := @UInt8.lt_iff_toNat_lt a b
    have t2 := @UInt8.lt_iff_toNat_lt b a
    have t3 := @UInt8.lt_iff_toNat_lt b c
    have t4 := @UInt8.lt_iff_toNat_lt c b
    have t5 := @UInt8.lt_iff_toNat_lt a c
    have t6 := @UInt8.lt_iff_toNat_lt c a
    by_cases hab : a < b
    · by_cases hbc : b < c
      · have hac : a < c := by rw [t5]; rw [t1] at hab; rw [t3] at hbc; omega
        simp [hab, hbc, hac]
      · have hcb : ¬ c < b := by intro h; rw [if_neg hbc, if_pos h] at h2; omega
        have hac : a < c := by rw [t5]; rw [t1] at hab; rw [t4] at hcb; omega
        simp [hab, hac]
    · have hba : ¬ b < a := by intro h; rw [if_neg hab, if_pos h] at h1; omega
      rw [if_neg hab, if_neg hba] at h1 ⊢
      have eab : a.toNat = b.toNat := by rw [t1] at hab; rw [t2] at hba; omega
      by_cases hbc : b < c
      · have hac : a < c := by rw [t5]; rw [t3] at hbc; omega
        simp [hac]
      · have hcb : ¬ c < b := by intro h; rw [if_neg hbc, if_pos h] at h2; omega
        rw [if_neg hbc, if_neg hcb] at h2 ⊢
        have hac : ¬ a < c := by rw [t5]; rw [t3] at hbc; omega
        have hca : ¬ c < a := by rw [t6]; rw [t4] at hcb; omega
        rw [if_neg hac, if_neg hca]
        exact ih h1 h2
theorem icmp_range (a b : Int) : icmp a b = -1 ∨ icmp a b = 0 ∨ icmp a b = 1 := by unfold icmp; split <;> (try split) <;> simp
theorem or3_le {x y z : Int} (hx : x = -1 ∨ x = 0 ∨ x = 1) (hy : y = -1 ∨ y = 0 ∨ y = 1) (hz : z = -1 ∨ z = 0 ∨ z = 1) : or3 x y z ≤ 0 ↔ x < 0 ∨ (x = 0 ∧ (y < 0 ∨ (y = 0 ∧ z ≤ 0))) := by
  unfold or3; rcases hx with rfl | rfl | rfl <;> rcases hy with rfl | rfl | rfl <;> rcases hz with rfl | rfl | rfl <;> decide
theorem kcmp_trans (u v x : ByteArray) (s t y k l m : Int) (h1 : kcmp u s k v t l ≤ 0) (h2 : kcmp v t l x y m ≤ 0) : kcmp u s k x y m ≤ 0 := by
  unfold kcmp at *
  rw [or3_le (cmpB_range _ _) (icmp_range _ _) (icmp_range _ _)] at *
  have ht := cmpB_trans u.data.toList v.data.toList x.data.toList
  have r1 := cmpB_range u.data.toList v.data.toList
  have r2 := cmpB_range v.data.toList x.data.toList
  have r3 := cmpB_range u.data.toList x.data.toList
  have e1 : Lib.compareBytes u.data.toList v.data.toList = 0 → Lib.compareBytes u.data.toList x.data.toList = Lib.compareBytes v.data.toList x.data.toList := fun h => by rw [cmpB_eq _ _ h]
  have e2 : Lib.compareBytes v.data.toList x.data.toList = 0 → Lib.compareBytes u.data.toList x.data.toList = Lib.compareBytes u.data.toList v.data.toList := fun h => by rw [← cmpB_eq _ _ h]
  generalize Lib.compareBytes u.data.toList v.data.toList = p at *
  generalize Lib.compareBytes v.data.toList x.data.toList = q at *
  generalize Lib.compareBytes u.data.toList x.data.toList = r at *
  unfold icmp at *
  have hh : p ≤ 0 := by omega
  have hh2 : q ≤ 0 := by omega
  obtain ⟨ht1, ht2⟩ := ht hh hh2
  by_cases hr : r = 0
  · obtain ⟨hp, hq⟩ := ht2 hr
    right
    refine ⟨hr, ?_⟩
    have a1 := h1.resolve_left (by omega)
    have a2 := h2.resolve_left (by omega)
    have b1 := a1.2
    have b2 := a2.2
    clear h1 h2 a1 a2 ht ht2 e1 e2 r1 r2 r3
    repeat' split at b1
    all_goals repeat' split at b2
    all_goals repeat' split
    all_goals omega
  · left; omega
theorem icmp_zero (a b : Int) : icmp a b = 0 ↔ a = b := by unfold icmp; split <;> (try split) <;> omega
theorem or3_zero (x y z : Int) : or3 x y z = 0 ↔ x = 0 ∧ y = 0 ∧ z = 0 := by
  unfold or3
  by_cases h1 : x = 0 <;> by_cases h2 : y = 0 <;> simp [h1, h2]
theorem kcmp_zero (u v : ByteArray) (s t k l : Int) : (kcmp u s k v t l == 0) = keq u s k v t l := by
  unfold keq
  rw [Bool.eq_iff_iff, beq_iff_eq]
  unfold kcmp
  rw [or3_zero, icmp_zero, icmp_zero]
  simp only [Bool.and_eq_true, beq_iff_eq]
  rw [ByteArray.toList_eq, ByteArray.toList_eq]
  constructor
  · rintro ⟨h1, h2, h3⟩; exact ⟨cmpB_eq _ _ h1, h2.symm, h3.symm⟩
  · rintro ⟨h1, h2, h3⟩; exact ⟨by rw [h1]; exact cmpB_refl _, h2.symm, h3.symm⟩
theorem kcmp_refl (u : ByteArray) (s k : Int) : kcmp u s k u s k = 0 := by
  unfold kcmp; rw [cmpB_refl]; unfold icmp or3; simp
end Go.Proofs.YtmhklmecpbdljaaDoor
