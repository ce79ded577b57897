/- Numbers as bytes: seven bits a byte, the least ahead; how they are read. Plain lists. -/
import Derived.Test.YtmhklmecpbdljaaDoorYSep
namespace Go.Proofs.YtmhklmecpbdljaaDoor
open Go.RowKit
set_option linter.unusedVariables false

def numF : Nat → Nat → List UInt8
  | 0, n => [UInt8.ofNat n]
  | f + 1, n => if n ≤ 127 then [UInt8.ofNat n] else UInt8.ofNat (n % 128 + 128) :: numF f (n / 128)
/-- a number's bytes -/
def num (n : Nat) : List UInt8 := numF n n
theorem numF_any : ∀ (f g n : Nat), n ≤ f → n ≤ g → numF f n = numF g n
  | 0, 0, n, _, _ => rfl
  | 0, g + 1, n, h, _ => by obtain rfl : n = 0 := by omega
                            simp [numF]
  | f + 1, 0, n, _, h => by obtain rfl : n = 0 := by omega
                            simp [numF]
  | f + 1, g + 1, n, h1, h2 => by
    unfold numF
    by_cases h : n ≤ 127
    · rw [if_pos h, if_pos h]
    · rw [if_neg h, if_neg h, numF_any f g (n / 128) (by omega) (by omega)]
theorem num_small {n : Nat} (h : n ≤ 127) : num n = [UInt8.ofNat n] := by
  unfold num; cases n with
  | zero => rfl
  | succ k => unfold numF; rw [if_pos h]
theorem num_big {n : Nat} (h : 127 < n) : num n = UInt8.ofNat (n % 128 + 128) :: num (n / 128) := by
  unfold num
  obtain ⟨k, rfl⟩ : ∃ k, n = k + 1 := ⟨n - 1, by omega⟩
  rw [numF, if_neg (by omega), numF_any k ((k + 1) / 128) ((k + 1) / 128) (by omega) (by omega)]
theorem num_pos (n : Nat) : 0 < (num n).length := by
  by_cases h : n ≤ 127
  · rw [num_small h]; simp
  · rw [num_big (by omega)]; simp
theorem num_len : ∀ (k n : Nat), n < 128 ^ (k + 1) → (num n).length ≤ k + 1
  | 0, n, h => by rw [num_small (by omega)]; simp
  | k + 1, n, h => by
    by_cases h1 : n ≤ 127
    · rw [num_small h1]; simp
    · rw [num_big (by omega)]
      have := num_len k (n / 128) (by rw [Nat.pow_succ] at h; omega)
      simp; omega
theorem num_len9 {n : Nat} (h : n < 9223372036854775808) : (num n).length ≤ 9 := num_len 8 n (by omega)

/-- the number at the head of some bytes, and what is left: at most k bytes more; 'first': none was read yet -/
def rdNum : Nat → Bool → List UInt8 → Option (Nat × List UInt8)
  | 0, _, _ => none
  | _ + 1, _, [] => none
  | k + 1, first, c :: t => if c.toNat < 128 then (if c = 0 ∧ first = false then none else some (c.toNat, t)) else (rdNum k false t).map fun x => (c.toNat % 128 + 128 * x.1, x.2)

/-- seen from the first byte on: N was read already, P is what the next byte counts -/
def upon (N P : Nat) (o : Option (Nat × List UInt8)) : Option (Nat × List UInt8) := o.map fun x => (N + P * x.1, x.2)
theorem upon_start (o : Option (Nat × List UInt8)) : upon 0 1 o = o := by cases o <;> simp [upon]
theorem upon_none (N P : Nat) : upon N P none = none := rfl
theorem upon_next (N P x : Nat) (o : Option (Nat × List UInt8)) : upon N P (o.map fun y => (x + 128 * y.1, y.2)) = upon (N + P * x) (P * 128) o := by
  cases o with
  | none => rfl
  | some y =>
    simp only [upon, Option.map_some, Option.some.injEq, Prod.mk.injEq, and_true]
    rw [Nat.mul_add, ← Nat.mul_assoc]; omega
theorem rdNum_nil (k : Nat) (b : Bool) : rdNum k b [] = none := by cases k <;> rfl
theorem rdNum_more {k : Nat} {b : Bool} {c : UInt8} {t : List UInt8} (h : 128 ≤ c.toNat) : rdNum (k + 1) b (c :: t) = (rdNum k false t).map fun x => (c.toNat % 128 + 128 * x.1, x.2) := by rw [rdNum, if_neg (by omega)]
theorem rdNum_last {k : Nat} {b : Bool} {c : UInt8} {t : List UInt8} (h : c.toNat < 128) (h0 : c.toNat ≠ 0 ∨ b = true) : rdNum (k + 1) b (c :: t) = some (c.toNat, t) := by
  rw [rdNum, if_pos h, if_neg]
  rintro ⟨rfl, rfl⟩
  rcases h0 with h0 | h0
  · exact h0 rfl
  · cases h0
theorem rdNum_long {k : Nat} {c : UInt8} {t : List UInt8} (h : c.toNat = 0) : rdNum (k + 1) false (c :: t) = none := by
  have : c = 0 := UInt8.toNat_inj.1 h
  subst this; rw [rdNum, if_pos (by decide), if_pos ⟨rfl, rfl⟩]

theorem toNat_ofNat8 (n : Nat) : (UInt8.ofNat n).toNat = n % 256 := by simp

/-- what was written is read back -/
theorem rdNum_num (r : List UInt8) : ∀ (k n : Nat) (b : Bool), n < 128 ^ (k + 1) → (0 < n ∨ b = true) → rdNum (k + 1) b (num n ++ r) = some (n, r)
  | 0, n, b, h, hb => by
    have e : (UInt8.ofNat n).toNat = n := by rw [toNat_ofNat8]; omega
    rw [num_small (by omega)]
    show rdNum 1 b (UInt8.ofNat n :: r) = _
    rw [rdNum_last (by rw [e]; omega) (by rw [e]; rcases hb with h | h; exact .inl (by omega); exact .inr h), e]
  | k + 1, n, b, h, hb => by
    by_cases h1 : n ≤ 127
    · have e : (UInt8.ofNat n).toNat = n := by rw [toNat_ofNat8]; omega
      rw [num_small h1]
      show rdNum (k + 1 + 1) b (UInt8.ofNat n :: r) = _
      rw [rdNum_last (by rw [e]; omega) (by rw [e]; rcases hb with h | h; exact .inl (by omega); exact .inr h), e]
    · have e : (UInt8.ofNat (n % 128 + 128)).toNat = n % 128 + 128 := by rw [toNat_ofNat8]; omega
      rw [num_big (by omega), List.cons_append, rdNum_more (by rw [e]; omega), rdNum_num r k (n / 128) false (by rw [Nat.pow_succ] at h; omega) (.inl (by omega)), e]
      simp only [Option.map_some, Option.some.injEq, Prod.mk.injEq, and_true]
      omega
theorem rdNum9_num {n : Nat} (h : n < 9223372036854775808) (r : List UInt8) : rdNum 9 true (num n ++ r) = some (n, r) := rdNum_num r 8 n true (by omega) (.inr rfl)

/-- what is read is what was written -/
theorem rdNum_is : ∀ (k : Nat) (b : Bool) (l : List UInt8) (n : Nat) (r : List UInt8), rdNum k b l = some (n, r) → l = num n ++ r ∧ n < 128 ^ k ∧ (0 < n ∨ b = true)
  | 0, _, _, _, _, h => by simp [rdNum] at h
  | k + 1, b, [], _, _, h => by simp [rdNum] at h
  | k + 1, b, c :: t, n, r, h => by
    have hc := c.toNat_lt
    have hp : 1 ≤ 128 ^ k := Nat.pow_pos (by decide)
    have hP : 128 ^ (k + 1) = 128 ^ k * 128 := Nat.pow_succ ..
    by_cases h1 : c.toNat < 128
    · by_cases h2 : c = 0 ∧ b = false
      · rw [rdNum, if_pos h1, if_pos h2] at h; cases h
      · rw [rdNum, if_pos h1, if_neg h2] at h
        simp only [Option.some.injEq, Prod.mk.injEq] at h
        obtain ⟨rfl, rfl⟩ := h
        refine ⟨?_, by omega, ?_⟩
        · rw [num_small (by omega)]; simp
        · cases b with
          | true => exact .inr rfl
          | false =>
            left
            rcases Nat.eq_zero_or_pos c.toNat with h0 | h0
            · exact absurd ⟨UInt8.toNat_inj.1 h0, rfl⟩ h2
            · exact h0
    · rw [rdNum, if_neg h1] at h
      obtain ⟨⟨m, r'⟩, h3, h4⟩ := Option.map_eq_some_iff.1 h
      simp only [Prod.mk.injEq] at h4
      obtain ⟨rfl, rfl⟩ := h4
      obtain ⟨rfl, h5, h6⟩ := rdNum_is k false t m r' h3
      have hm : 0 < m := by rcases h6 with h6 | h6; exact h6; cases h6
      refine ⟨?_, ?_, .inl (by omega)⟩
      · rw [num_big (n := c.toNat % 128 + 128 * m) (by omega)]
        have e1 : (c.toNat % 128 + 128 * m) % 128 + 128 = c.toNat := by omega
        have e2 : (c.toNat % 128 + 128 * m) / 128 = m := by omega
        rw [e1, e2]; simp
      · rw [hP]
        have : m + 1 ≤ 128 ^ k := h5
        have := Nat.mul_le_mul_right 128 this
        omega
end Go.Proofs.YtmhklmecpbdljaaDoor
