/- Chapter 09: sums of bytes: plain laws. -/
import Derived.Test.YtkflingpogokcaaDoorYBase
namespace Go.Proofs.YtkflingpogokcaaDoor
open Go.RowKit
set_option linter.unusedVariables false
set_option linter.unusedSimpArgs false

/-- one bit falls out -/
def bit1 (c : Nat) : Nat := if c % 2 = 1 then (c / 2) ^^^ 2197175160 else c / 2
def bitN : Nat → Nat → Nat
  | 0, c => c
  | n + 1, c => bitN n (bit1 c)
theorem bitN_succ : ∀ (n c : Nat), bitN (n + 1) c = bit1 (bitN n c)
  | 0, c => rfl
  | n + 1, c => by rw [bitN, bitN_succ n (bit1 c)]; rfl
theorem bitN_add : ∀ (m n c : Nat), bitN (m + n) c = bitN n (bitN m c)
  | 0, n, c => by rw [Nat.zero_add]; rfl
  | m + 1, n, c => by rw [show m + 1 + n = (m + n) + 1 by omega, bitN, bitN_add m n]; rfl
theorem mod2_xor (a b : Nat) : (a ^^^ b) % 2 = (a % 2 + b % 2) % 2 := by
  have h := Nat.xor_mod_two_pow (a := a) (b := b) (n := 1)
  rw [Nat.pow_one] at h
  rw [h]
  rcases Nat.mod_two_eq_zero_or_one a with h1 | h1 <;> rcases Nat.mod_two_eq_zero_or_one b with h2 | h2 <;> rw [h1, h2] <;> rfl
theorem div2_xor (a b : Nat) : (a ^^^ b) / 2 = (a / 2) ^^^ (b / 2) := by
  have h := Nat.xor_div_two (a := a) (b := b)
  exact h
theorem bit1_xor (a b : Nat) : bit1 (a ^^^ b) = bit1 a ^^^ bit1 b := by
  unfold bit1
  rw [mod2_xor, div2_xor]
  generalize a / 2 = x
  generalize b / 2 = y
  have hl : ∀ p q r : Nat, p ^^^ (q ^^^ r) = q ^^^ (p ^^^ r) := fun p q r => by rw [← Nat.xor_assoc, Nat.xor_comm p q, Nat.xor_assoc]
  rcases Nat.mod_two_eq_zero_or_one a with h1 | h1 <;> rcases Nat.mod_two_eq_zero_or_one b with h2 | h2 <;> rw [h1, h2]
  · rfl
  · show x ^^^ y ^^^ 2197175160 = x ^^^ (y ^^^ 2197175160)
    rw [Nat.xor_assoc]
  · show x ^^^ y ^^^ 2197175160 = (x ^^^ 2197175160) ^^^ y
    rw [Nat.xor_assoc, Nat.xor_assoc, Nat.xor_comm y]
  · show x ^^^ y = (x ^^^ 2197175160) ^^^ (y ^^^ 2197175160)
    rw [Nat.xor_assoc, hl 2197175160 y, Nat.xor_self, Nat.xor_zero]
theorem bitN_xor : ∀ (n a b : Nat), bitN n (a ^^^ b) = bitN n a ^^^ bitN n b
  | 0, a, b => rfl
  | n + 1, a, b => by rw [bitN, bitN, bitN, bit1_xor, bitN_xor n]
theorem bitN_even : ∀ (n q : Nat), bitN n (q * 2 ^ n) = q
  | 0, q => by simp [bitN]
  | n + 1, q => by
    have h : bit1 (q * 2 ^ (n + 1)) = q * 2 ^ n := by
      unfold bit1
      have e : q * 2 ^ (n + 1) = 2 * (q * 2 ^ n) := by rw [Nat.pow_succ, ← Nat.mul_assoc, Nat.mul_comm]
      rw [e, if_neg (by omega)]; omega
    rw [bitN, h, bitN_even n q]
/-- what four bits that fall out bring in -/
def half16 : List Nat := [0, 274646895, 549293790, 820201905, 1098587580, 1361435347, 1640403810, 1905808397, 2197175160, 2460548119, 2722870694, 2987750089, 3280807620, 3553878443, 3811616794, 4084100981]
def halfAt (i : Nat) : Nat := half16.getD i 0
theorem half_bits : ∀ i, i < 16 → bitN 4 i = halfAt i := by decide +kernel
def nib (c : Nat) : Nat := (c / 16) ^^^ halfAt (c % 16)
theorem split16 (c : Nat) : c = (c / 16 * 2 ^ 4) ^^^ (c % 16) := by
  have h : (c / 16 * 2 ^ 4) ^^^ (c % 16) = c / 16 * 2 ^ 4 + c % 16 := by
    have := Nat.two_pow_add_eq_or_of_lt (i := 4) (b := c % 16) (by omega) (c / 16)
    rw [Nat.mul_comm] at this
    rw [this]
    apply Nat.eq_of_testBit_eq
    intro i
    rw [Nat.testBit_xor, Nat.testBit_or]
    by_cases hi : i < 4
    · have : (c / 16 * 2 ^ 4).testBit i = false := by
        rw [Nat.mul_comm, Nat.testBit_two_pow_mul]
        simp; omega
      rw [this]; simp
    · have : (c % 16).testBit i = false := Nat.testBit_lt_two_pow (Nat.lt_of_lt_of_le (show c % 16 < 2 ^ 4 by omega) (Nat.pow_le_pow_right (by omega) (by omega)))
      rw [this]; simp
  omega
theorem nib_bits (c : Nat) : nib c = bitN 4 c := by
  unfold nib
  conv => rhs; rw [split16 c]
  rw [bitN_xor, bitN_even, half_bits _ (by omega)]
/-- one byte -/
def byte1 (c b : Nat) : Nat := bitN 8 (c ^^^ b)
theorem byte1_nib (c b : Nat) : byte1 c b = nib (nib (c ^^^ b)) := by
  rw [nib_bits, nib_bits]
  exact bitN_add 4 4 _
theorem bit1_lt {c : Nat} (h : c < 4294967296) : bit1 c < 4294967296 := by
  unfold bit1
  split
  · exact Nat.xor_lt_two_pow (n := 32) (by omega) (by omega)
  · omega
theorem bitN_lt : ∀ (n : Nat) {c : Nat}, c < 4294967296 → bitN n c < 4294967296
  | 0, c, h => h
  | n + 1, c, h => bitN_lt n (bit1_lt h)
theorem byte1_lt {c b : Nat} (h : c < 4294967296) (hb : b < 256) : byte1 c b < 4294967296 :=
  bitN_lt 8 (Nat.xor_lt_two_pow (n := 32) h (by omega))
def runS (c : Nat) (l : List UInt8) : Nat := l.foldl (fun c b => byte1 c b.toNat) c
theorem runS_lt : ∀ (l : List UInt8) {c : Nat}, c < 4294967296 → runS c l < 4294967296
  | [], c, h => h
  | b :: l, c, h => runS_lt l (byte1_lt h b.toNat_lt)
theorem runS_take {l : List UInt8} {k : Nat} (c : Nat) (h : k < l.length) : runS c (l.take (k + 1)) = byte1 (runS c (l.take k)) l[k].toNat := by
  unfold runS
  rw [List.take_succ_eq_append_getElem h, List.foldl_append]; rfl
def sumOf (l : List UInt8) : Nat := runS 4294967295 l ^^^ 4294967295
theorem sumOf_lt (l : List UInt8) : sumOf l < 4294967296 := Nat.xor_lt_two_pow (n := 32) (runS_lt l (by omega)) (by omega)
/-- the mask -/
def maskS (c : Nat) : Nat := (c / 32768 + c % 32768 * 131072 + 2726488792) % 4294967296
def unmaskS (m : Nat) : Nat := let d := (m + 1568478504) % 4294967296; d % 131072 * 32768 + d / 131072
theorem maskS_lt (c : Nat) : maskS c < 4294967296 := Nat.mod_lt _ (by decide)
theorem unmaskS_lt (c : Nat) : unmaskS c < 4294967296 := by
  unfold unmaskS
  have := Nat.mod_lt (c + 1568478504) (show 0 < 4294967296 by decide)
  simp only; omega
theorem unmask_mask {c : Nat} (h : c < 4294967296) : unmaskS (maskS c) = c := by
  unfold unmaskS maskS
  have h1 : ((c / 32768 + c % 32768 * 131072 + 2726488792) % 4294967296 + 1568478504) % 4294967296 = c / 32768 + c % 32768 * 131072 := by omega
  simp only
  rw [h1]; omega
theorem mask_unmask {m : Nat} (h : m < 4294967296) : maskS (unmaskS m) = m := by
  unfold unmaskS maskS
  simp only
  generalize hd : (m + 1568478504) % 4294967296 = d
  have hd2 : d < 4294967296 := by omega
  have h1 : (d % 131072 * 32768 + d / 131072) / 32768 = d % 131072 := by omega
  have h2 : (d % 131072 * 32768 + d / 131072) % 32768 = d / 131072 := by omega
  rw [h1, h2]; omega
/-- four bytes -/
def wordS (c : Nat) : List UInt8 := [UInt8.ofNat (c / 16777216), UInt8.ofNat (c / 65536), UInt8.ofNat (c / 256), UInt8.ofNat c]
def unwordS (l : List UInt8) : Nat := l.foldl (fun c b => c * 256 + b.toNat) 0
theorem wordS_len (c : Nat) : (wordS c).length = 4 := rfl
theorem unword_word {c : Nat} (h : c < 4294967296) : unwordS (wordS c) = c := by
  unfold unwordS wordS
  simp only [List.foldl, UInt8.toNat_ofNat']
  omega
theorem word_unword {l : List UInt8} (h : l.length = 4) : wordS (unwordS l) = l := by
  match l, h with
  | [a, b, c, d], _ =>
    have h1 := a.toNat_lt
    have h2 := b.toNat_lt
    have h3 := c.toNat_lt
    have h4 := d.toNat_lt
    unfold unwordS wordS
    simp only [List.foldl]
    have e : ∀ (x : Nat) (u : UInt8), x % 256 = u.toNat → UInt8.ofNat x = u := fun x u hx => by
      apply UInt8.toNat_inj.1
      rw [UInt8.toNat_ofNat', hx]
    rw [e _ a (by omega), e _ b (by omega), e _ c (by omega), e _ d (by omega)]
theorem unwordS_lt {l : List UInt8} (h : l.length = 4) : unwordS l < 4294967296 := by
  match l, h with
  | [a, b, c, d], _ =>
    have h1 := a.toNat_lt
    have h2 := b.toNat_lt
    have h3 := c.toNat_lt
    have h4 := d.toNat_lt
    unfold unwordS
    simp only [List.foldl]
    omega
end Go.Proofs.YtkflingpogokcaaDoor
