/- Texts joined: Su, SuW, SuR. -/
import Derived.Test.YtmhklmecpbdljaaDoorYJm
import Derived.Test.YtmhklmecpbdljaaDoorYRd
/- Chapter 09: sums of bytes: plain laws. -/

namespace Go.Proofs.YtmhklmecpbdljaaDoor
open Go.RowKit
set_option linter.unusedVariables false
set_option linter.unusedSimpArgs false

/-- one bit falls out -/
def bit1 (c : Nat) : Nat := if c % 2 = 1 then (c / 2) ^^^ 2197175160 else c / 2
def bitN : Nat → Nat → Nat
  | 0, c => c
  | n + 1, c => bitN n (bit1 c)
theorem bitN_succ : ∀ (n c : Nat), bitN (n + 1) c = bit1 (bitN n c)
  | 0, c => rfl
  | n + 1, c => by rw [bitN, bitN_succ n (bit1 c)]; rfl
theorem bitN_add : ∀ (m n c : Nat), bitN (m + n) c = bitN n (bitN m c)
  | 0, n, c => by rw [Nat.zero_add]; rfl
  | m + 1, n, c => by rw [show m + 1 + n = (m + n) + 1 by omega, bitN, bitN_add m n]; rfl
theorem mod2_xor (a b : Nat) : (a ^^^ b) % 2 = (a % 2 + b % 2) % 2 := by
  have h := Nat.xor_mod_two_pow (a := a) (b := b) (n := 1)
  rw [Nat.pow_one] at h
  rw [h]
  rcases Nat.mod_two_eq_zero_or_one a with h1 | h1 <;> rcases Nat.mod_two_eq_zero_or_one b with h2 | h2 <;> rw [h1, h2] <;> rfl
theorem div2_xor (a b : Nat) : (a ^^^ b) / 2 = (a / 2) ^^^ (b / 2) := by
  have h := Nat.xor_div_two (a := a) (b := b)
  exact h
theorem bit1_xor (a b : Nat) : bit1 (a ^^^ b) = bit1 a ^^^ bit1 b := by
  unfold bit1
  rw [mod2_xor, div2_xor]
  generalize a / 2 = x
  generalize b / 2 = y
  have hl : ∀ p q r : Nat, p ^^^ (q ^^^ r) = q ^^^ (p ^^^ r) := fun p q r => by rw [← Nat.xor_assoc, Nat.xor_comm p q, Nat.xor_assoc]
  rcases Nat.mod_two_eq_zero_or_one a with h1 | h1 <;> rcases Nat.mod_two_eq_zero_or_one b with h2 | h2 <;> rw [h1, h2]
  · rfl
  · show x ^^^ y ^^^ 2197175160 = x ^^^ (y ^^^ 2197175160)
    rw [Nat.xor_assoc]
  · show x ^^^ y ^^^ 2197175160 = (x ^^^ 2197175160) ^^^ y
    rw [Nat.xor_assoc, Nat.xor_assoc, Nat.xor_comm y]
  · show x ^^^ y = (x ^^^ 2197175160) ^^^ (y ^^^ 2197175160)
    rw [Nat.xor_assoc, hl 2197175160 y, Nat.xor_self, Nat.xor_zero]
theorem bitN_xor : ∀ (n a b : Nat), bitN n (a ^^^ b) = bitN n a ^^^ bitN n b
  | 0, a, b => rfl
  | n + 1, a, b => by rw [bitN, bitN, bitN, bit1_xor, bitN_xor n]
theorem bitN_even : ∀ (n q : Nat), bitN n (q * 2 ^ n) = q
  | 0, q => by simp [bitN]
  | n + 1, q => by
    have h : bit1 (q * 2 ^ (n + 1)) = q * 2 ^ n := by
      unfold bit1
      have e : q * 2 ^ (n + 1) = 2 * (q * 2 ^ n) := by rw [Nat.pow_succ, ← Nat.mul_assoc, Nat.mul_comm]
      rw [e, if_neg (by omega)]; omega
    rw [bitN, h, bitN_even n q]
/-- what four bits that fall out bring in -/
def half16 : List Nat := [0, 274646895, 549293790, 820201905, 1098587580, 1361435347, 1640403810, 1905808397, 2197175160, 2460548119, 2722870694, 2987750089, 3280807620, 3553878443, 3811616794, 4084100981]
def halfAt (i : Nat) : Nat := half16.getD i 0
theorem half_bits : ∀ i, i < 16 → bitN 4 i = halfAt i := by decide +kernel
def nib (c : Nat) : Nat := (c / 16) ^^^ halfAt (c % 16)
theorem split16 (c : Nat) : c = (c / 16 * 2 ^ 4) ^^^ (c % 16) := by
  have h : (c / 16 * 2 ^ 4) ^^^ (c % 16) = c / 16 * 2 ^ 4 + c % 16 := by
    have := Nat.two_pow_add_eq_or_of_lt (i := 4) (b := c % 16) (by omega) (c / 16)
    rw [Nat.mul_comm] at this
    rw [this]
    apply Nat.eq_of_testBit_eq
    intro i
    rw [Nat.testBit_xor, Nat.testBit_or]
    by_cases hi : i < 4
    · have : (c / 16 * 2 ^ 4).testBit i = false := by
        rw [Nat.mul_comm, Nat.testBit_two_pow_mul]
        simp; omega
      rw [this]; simp
    · have : (c % 16).testBit i = false := Nat.testBit_lt_two_pow (Nat.lt_of_lt_of_le (show c % 16 < 2 ^ 4 by omega) (Nat.pow_le_pow_right (by omega) (by omega)))
      rw [this]; simp
  omega
theorem nib_bits (c : Nat) : nib c = bitN 4 c := by
  unfold nib
  conv => rhs; rw [split16 c]
  rw [bitN_xor, bitN_even, half_bits _ (by omega)]
/-- one byte -/
def byte1 (c b : Nat) : Nat := bitN 8 (c ^^^ b)
theorem byte1_nib (c b : Nat) : byte1 c b = nib (nib (c ^^^ b)) := by
  rw [nib_bits, nib_bits]
  exact bitN_add 4 4 _
theorem bit1_lt {c : Nat} (h : c < 4294967296) : bit1 c < 4294967296 := by
  unfold bit1
  split
  · exact Nat.xor_lt_two_pow (n := 32) (by omega) (by omega)
  · omega
theorem bitN_lt : ∀ (n : Nat) {c : Nat}, c < 4294967296 → bitN n c < 4294967296
  | 0, c, h => h
  | n + 1, c, h => bitN_lt n (bit1_lt h)
theorem byte1_lt {c b : Nat} (h : c < 4294967296) (hb : b < 256) : byte1 c b < 4294967296 :=
  bitN_lt 8 (Nat.xor_lt_two_pow (n := 32) h (by omega))
def runS (c : Nat) (l : List UInt8) : Nat := l.foldl (fun c b => byte1 c b.toNat) c
theorem runS_lt : ∀ (l : List UInt8) {c : Nat}, c < 4294967296 → runS c l < 4294967296
  | [], c, h => h
  | b :: l, c, h => runS_lt l (byte1_lt h b.toNat_lt)
theorem runS_take {l : List UInt8} {k : Nat} (c : Nat) (h : k < l.length) : runS c (l.take (k + 1)) = byte1 (runS c (l.take k)) l[k].toNat := by
  unfold runS
  rw [List.take_succ_eq_append_getElem h, List.foldl_append]; rfl
def sumOf (l : List UInt8) : Nat := runS 4294967295 l ^^^ 4294967295
theorem sumOf_lt (l : List UInt8) : sumOf l < 4294967296 := Nat.xor_lt_two_pow (n := 32) (runS_lt l (by omega)) (by omega)
/-- the mask -/
def maskS (c : Nat) : Nat := (c / 32768 + c % 32768 * 131072 + 2726488792) % 4294967296
def unmaskS (m : Nat) : Nat := let d := (m + 1568478504) % 4294967296; d % 131072 * 32768 + d / 131072
theorem maskS_lt (c : Nat) : maskS c < 4294967296 := Nat.mod_lt _ (by decide)
theorem unmaskS_lt (c : Nat) : unmaskS c < 4294967296 := by
  unfold unmaskS
  have := Nat.mod_lt (c + 1568478504) (show 0 < 4294967296 by decide)
  simp only; omega
theorem unmask_mask {c : Nat} (h : c < 4294967296) : unmaskS (maskS c) = c := by
  unfold unmaskS maskS
  have h1 : ((c / 32768 + c % 32768 * 131072 + 2726488792) % 4294967296 + 1568478504) % 4294967296 = c / 32768 + c % 32768 * 131072 := by omega
  simp only
  rw [h1]; omega
theorem mask_unmask {m : Nat} (h : m < 4294967296) : maskS (unmaskS m) = m := by
  unfold unmaskS maskS
  simp only
  generalize hd : (m + 1568478504) % 4294967296 = d
  have hd2 : d < 4294967296 := by omega
  have h1 : (d % 131072 * 32768 + d / 131072) / 32768 = d % 131072 := by omega
  have h2 : (d % 131072 * 32768 + d / 131072) % 32768 = d / 131072 := by omega
  rw [h1, h2]; omega
/-- four bytes -/
def wordS (c : Nat) : List UInt8 := [UInt8.ofNat (c / 16777216), UInt8.ofNat (c / 65536), UInt8.ofNat (c / 256), UInt8.ofNat c]
def unwordS (l : List UInt8) : Nat := l.foldl (fun c b => c * 256 + b.toNat) 0
theorem wordS_len (c : Nat) : (wordS c).length = 4 := rfl
theorem unword_word {c : Nat} (h : c < 4294967296) : unwordS (wordS c) = c := by
  unfold unwordS wordS
  simp only [List.foldl, UInt8.toNat_ofNat']
  omega
theorem word_unword {l : List UInt8} (h : l.length = 4) : wordS (unwordS l) = l := by
  match l, h with
  | [a, b, c, d], _ =>
    have h1 := a.toNat_lt
    have h2 := b.toNat_lt
    have h3 := c.toNat_lt
    have h4 := d.toNat_lt
    unfold unwordS wordS
    simp only [List.foldl]
    have e : ∀ (x : Nat) (u : UInt8), x % 256 = u.toNat → UInt8.ofNat x = u := fun x u hx => by
      apply UInt8.toNat_inj.1
      rw [UInt8.toNat_ofNat', hx]
    rw [e _ a (by omega), e _ b (by omega), e _ c (by omega), e _ d (by omega)]
theorem unwordS_lt {l : List UInt8} (h : l.length = 4) : unwordS l < 4294967296 := by
  match l, h with
  | [a, b, c, d], _ =>
    have h1 := a.toNat_lt
    have h2 := b.toNat_lt
    have h3 := c.toNat_lt
    have h4 := d.toNat_lt
    unfold unwordS
    simp only [List.foldl]
    omega
end Go.Proofs.YtmhklmecpbdljaaDoor
/- Chapter 09: sums of bytes: the walks. -/

namespace Go.Proofs.YtmhklmecpbdljaaDoor
open Go.RowKit
set_option linter.unusedVariables false
set_option linter.unusedSimpArgs false

theorem wrap_u32 (n : Int) : IntKind.u32.wrap n = n % 4294967296 := by
  simp only [IntKind.wrap, IntKind.bits, IntKind.signed]; simp
theorem bits_xor32 {a b : Nat} (ha : a < 4294967296) (hb : b < 4294967296) : bits .xor .u32 (a : Int) (b : Int) = ((a ^^^ b : Nat) : Int) := by
  show IntKind.u32.wrap ((BitVec.ofInt 32 a ^^^ BitVec.ofInt 32 b).toNat : Int) = _
  have h1 : (BitVec.ofInt 32 (a : Int)).toNat = a := by rw [BitVec.toNat_ofInt]; omega
  have h2 : (BitVec.ofInt 32 (b : Int)).toNat = b := by rw [BitVec.toNat_ofInt]; omega
  rw [BitVec.toNat_xor, h1, h2, wrap_u32]
  have := Nat.xor_lt_two_pow (n := 32) ha hb
  omega
theorem bits_and15 {a : Nat} (ha : a < 4294967296) : bits .and .u32 (a : Int) 15 = ((a % 16 : Nat) : Int) := by
  show IntKind.u32.wrap ((BitVec.ofInt 32 a &&& BitVec.ofInt 32 15).toNat : Int) = _
  have h1 : (BitVec.ofInt 32 (a : Int)).toNat = a := by rw [BitVec.toNat_ofInt]; omega
  have h2 : (BitVec.ofInt 32 (15 : Int)).toNat = 2 ^ 4 - 1 := by decide
  rw [BitVec.toNat_and, h1, h2, Nat.and_two_pow_sub_one_eq_mod, wrap_u32]; omega
theorem rb_cell {w wr : World} {ao : Option Addr} {n c : Nat} {l : List UInt8} (h : RB w (.slice ao n c) l) (hb : Below w.heap.size w wr) (k : Nat) (hk : k < l.length) : ∃ b off, ao = some ⟨b, off, none⟩ ∧ wr.cell? ⟨b, off + k, none⟩ = some (.int .u8 (l[k].toNat : Nat)) := by
  obtain ⟨ao', c', e, _, hr⟩ := h
  cases e
  obtain ⟨b, off, rfl, hc⟩ := hr (by omega)
  exact ⟨b, off, rfl, cell_next (hc k hk) _ hb⟩
theorem bits_nib {c h : Nat} (hc : c < 4294967296) (hh : h < 4294967296) : bits .xor .u32 ((c : Int) / 16) (h : Int) = ((c / 16 ^^^ h : Nat) : Int) := by
  rw [show (c : Int) / 16 = ((c / 16 : Nat) : Int) by omega]; exact bits_xor32 (by omega) hh
theorem bits_not32 {c : Nat} (hc : c < 4294967296) : bits .xor .u32 IntKind.u32.max (c : Int) = ((c ^^^ 4294967295 : Nat) : Int) := by
  rw [show IntKind.u32.max = ((4294967295 : Nat) : Int) by rfl, bits_xor32 (by omega) hc, Nat.xor_comm]
/-- the table lies as the program's text lays it -/
def Tab9 (w : World) : Prop := ∀ i, i < 16 → w.cell? ⟨0, i, none⟩ = some (.int .u32 (halfAt i : Nat))
theorem Tab9.below {w w' : World} (h : Tab9 w) (hb : Below w.heap.size w w') : Tab9 w' := fun i hi => cell_next (h i hi) _ hb
set_option maxRecDepth 100000 in
set_option maxHeartbeats 2000000 in
theorem more_any {w : World} {ao : Option Addr} {c : Nat} {l : List UInt8} (hT : Tab9 w) (h : RB w (.slice ao l.length c) l) (hl : l.length ≤ 140737488355327) :
    Calls Tryd.prog 80 #[.int .u32 0, .slice ao l.length c] w fun e w' => e = .returned (.int .u32 (sumOf l : Nat)) ∧ Below w.heap.size w w' := by
  have HT := Lib.hid hT
  have H := Lib.hid h
  clear hT h
  go_enter Tryd.func80, Tryd.ntmps80
  go_wp2
  go_loopw [0, 11] (fun v i wr => ∃ k : Nat, k ≤ l.length ∧ i = .int .i64 k ∧ v = .int .u32 (runS 4294967295 (l.take k) : Nat) ∧ Below w.heap.size w wr) (fun _ i _ => l.length - (intOf i).toNat)
  case atStart => exact ⟨0, Nat.zero_le _, rfl, rfl, Below.refl _ _⟩
  case round =>
    obtain ⟨k, hk, rfl, rfl, hbr⟩ := hrel
    have HBr := Lib.hid hbr
    by_cases hlt : k < l.length
    · obtain ⟨b, off, rfl, d0⟩ := rb_cell H.out hbr k hlt
      have hst := runS_take 4294967295 hlt
      have hc0 := runS_lt (l.take k) (show 4294967295 < 4294967296 by decide)
      rw [byte1_nib] at hst
      have hb := (l[k]).toNat_lt
      have HSt := Lib.hid hst
      generalize runS 4294967295 (l.take k) = c0 at *
      generalize (l[k]).toNat = b0 at *
      have x0 := bits_xor32 hc0 (show b0 < 4294967296 by omega)
      have h1 : (c0 ^^^ b0) < 4294967296 := Nat.xor_lt_two_pow (n := 32) hc0 (by omega)
      have hn1 : nib (c0 ^^^ b0) = ((c0 ^^^ b0) / 16) ^^^ halfAt ((c0 ^^^ b0) % 16) := rfl
      generalize c0 ^^^ b0 = c1 at *
      have hh : ∀ i, halfAt i < 4294967296 := fun i => by
        unfold halfAt
        by_cases hi : i < 16
        · have : ∀ j, j < 16 → half16.getD j 0 < 4294967296 := by decide +kernel
          exact this i hi
        · rw [List.getD, List.getElem?_eq_none (by show 16 ≤ i; omega)]; decide
      have a1 := bits_and15 h1
      have t1 := (HT.out.below hbr) (c1 % 16) (by omega)
      have x1 := bits_nib h1 (hh (c1 % 16))
      have h2 : (c1 / 16 ^^^ halfAt (c1 % 16)) < 4294967296 := Nat.xor_lt_two_pow (n := 32) (by omega) (hh _)
      have hn2 : nib (nib c1) = (nib c1 / 16) ^^^ halfAt (nib c1 % 16) := rfl
      rw [hn1] at hn2
      rw [hn1] at HSt
      generalize c1 / 16 ^^^ halfAt (c1 % 16) = c2 at *
      have a2 := bits_and15 h2
      have t2 := (HT.out.below hbr) (c2 % 16) (by omega)
      have x2 := bits_nib h2 (hh (c2 % 16))
      rw [show nib c2 = c2 / 16 ^^^ halfAt (c2 % 16) from rfl] at HSt
      have Hn := Lib.hid HSt.out
      generalize c2 / 16 ^^^ halfAt (c2 % 16) = c3 at *
      generalize halfAt (c1 % 16) = h1v at *
      generalize halfAt (c2 % 16) = h2v at *
      clear hst hn1 hn2 hh hbr
      go_wp2
      go_roundw
      case rel => exact ⟨k + 1, by omega, by go_num, by rw [Hn.out], HBr.out⟩
      case measure => simp [intOf]; omega
    · obtain rfl : k = l.length := by omega
      rw [List.take_of_length_le (Nat.le_refl _)]
      have hc0 := runS_lt l (show 4294967295 < 4294967296 by decide)
      have hs : (runS 4294967295 l ^^^ 4294967295) = sumOf l := rfl
      have HS := Lib.hid hs
      generalize runS 4294967295 l = c0 at *
      have x0 := bits_not32 hc0
      clear hs
      go_wp2
      go_ret
      exact ⟨by rw [← HS.out]; rfl, HBr.out⟩
theorem sum_of {w : World} {ao : Option Addr} {c : Nat} {l : List UInt8} (hT : Tab9 w) (h : RB w (.slice ao l.length c) l) (hl : l.length ≤ 140737488355327) :
    Calls Tryd.prog 68 #[.slice ao l.length c] w fun e w' => e = .returned (.int .u32 (sumOf l : Nat)) ∧ Below w.heap.size w w' := by
  have HM := Lib.hid (more_any hT h hl)
  clear hT h
  go_enter Tryd.func68, Tryd.ntmps68
  go_wp2_with fail; (with_reducible refine (HM.out).mono ?_); rintro e w1 ⟨rfl, hb1⟩
  go_wp2
  go_ret
  exact ⟨rfl, hb1⟩
theorem bits_or32 {a b : Nat} (k : Nat) (hb : b < 2 ^ k) (h : a * 2 ^ k + b < 4294967296) : bits .or .u32 ((a * 2 ^ k : Nat) : Int) (b : Int) = ((a * 2 ^ k + b : Nat) : Int) := by
  show IntKind.u32.wrap ((BitVec.ofInt 32 ((a * 2 ^ k : Nat) : Int) ||| BitVec.ofInt 32 b).toNat : Int) = _
  have h1 : (BitVec.ofInt 32 ((a * 2 ^ k : Nat) : Int)).toNat = a * 2 ^ k := by rw [BitVec.toNat_ofInt]; omega
  have h2 : (BitVec.ofInt 32 (b : Int)).toNat = b := by rw [BitVec.toNat_ofInt]; omega
  rw [BitVec.toNat_or, h1, h2, wrap_u32, Nat.mul_comm, ← Nat.two_pow_add_eq_or_of_lt hb]
  rw [Nat.mul_comm] at h
  omega
set_option maxHeartbeats 1000000 in
theorem rot_neg {c : Nat} (hc : c < 4294967296) (w : World) : Calls Tryd.prog 79 #[.int .u32 c, .int .i64 (-15)] w fun e w' => e = .returned (.int .u32 ((c / 32768 + c % 32768 * 131072 : Nat))) ∧ Below w.heap.size w w' := by
  have h17 : bits .and .u64 (IntKind.u64.wrap (-15)) 31 = 17 := by decide +kernel
  have hor : bits .or .u32 ((c : Int) * 131072 % 4294967296) ((c : Int) / 32768) = ((c / 32768 + c % 32768 * 131072 : Nat) : Int) := by
    have := bits_or32 (a := c % 32768) (b := c / 32768) 17 (by omega) (by omega)
    rw [show (c : Int) * 131072 % 4294967296 = ((c % 32768 * 2 ^ 17 : Nat) : Int) by omega, show (c : Int) / 32768 = ((c / 32768 : Nat) : Int) by omega, this]
    omega
  go_enter Tryd.func79, Tryd.ntmps79
  go_wp2
  go_ret
  exact ⟨by rw [show ((c / 32768 + c % 32768 * 131072 : Nat) : Int) = (c : Int) / 32768 + (c : Int) % 32768 * 131072 by omega]; rfl, Below.refl _ _⟩
set_option maxHeartbeats 1000000 in
theorem rot_pos {c : Nat} (hc : c < 4294967296) (w : World) : Calls Tryd.prog 79 #[.int .u32 c, .int .i64 15] w fun e w' => e = .returned (.int .u32 ((c % 131072 * 32768 + c / 131072 : Nat))) ∧ Below w.heap.size w w' := by
  have h15 : bits .and .u64 15 31 = 15 := by decide +kernel
  have hor : bits .or .u32 ((c : Int) * 32768 % 4294967296) ((c : Int) / 131072) = ((c % 131072 * 32768 + c / 131072 : Nat) : Int) := by
    have := bits_or32 (a := c % 131072) (b := c / 131072) 15 (by omega) (by omega)
    rw [show (c : Int) * 32768 % 4294967296 = ((c % 131072 * 2 ^ 15 : Nat) : Int) by omega, show (c : Int) / 131072 = ((c / 131072 : Nat) : Int) by omega, this]
  go_enter Tryd.func79, Tryd.ntmps79
  go_wp2
  go_ret
  exact ⟨by rw [show ((c % 131072 * 32768 + c / 131072 : Nat) : Int) = (c : Int) % 131072 * 32768 + (c : Int) / 131072 by omega]; rfl, Below.refl _ _⟩
theorem smask {c : Nat} (hc : c < 4294967296) (w : World) : Calls Tryd.prog 72 #[.int .u32 c] w fun e w' => e = .returned (.int .u32 (maskS c : Nat)) ∧ Below w.heap.size w w' := by
  have HR := Lib.hid (rot_neg hc w)
  have HM : Hid (maskS c = (c / 32768 + c % 32768 * 131072 + 2726488792) % 4294967296) := Lib.hid rfl
  generalize maskS c = m at *
  generalize c / 32768 + c % 32768 * 131072 = r at *
  go_enter Tryd.func72, Tryd.ntmps72
  go_wp2_with fail; (with_reducible refine (HR.out).mono ?_); rintro e w1 ⟨rfl, hb1⟩
  go_wp2
  go_ret
  refine ⟨?_, hb1⟩
  rw [HM.out]
  have : (((r + 2726488792) % 4294967296 : Nat) : Int) = ((r : Int) + 2726488792) % 4294967296 := by omega
  rw [this]
  rfl
theorem sunmask {m : Nat} (hm : m < 4294967296) (w : World) : Calls Tryd.prog 67 #[.int .u32 m] w fun e w' => e = .returned (.int .u32 (unmaskS m : Nat)) ∧ Below w.heap.size w w' := by
  have HR := Lib.hid (rot_pos (c := (m + 1568478504) % 4294967296) (by omega) w)
  have HM : Hid (unmaskS m = (m + 1568478504) % 4294967296 % 131072 * 32768 + (m + 1568478504) % 4294967296 / 131072) := Lib.hid rfl
  have hd : ((m : Int) - 2726488792) % 4294967296 = (((m + 1568478504) % 4294967296 : Nat) : Int) := by omega
  generalize (m + 1568478504) % 4294967296 = d at *
  go_enter Tryd.func67, Tryd.ntmps67
  go_wp2_with fail; (with_reducible refine (HR.out).mono ?_); rintro e w1 ⟨rfl, hb1⟩
  go_wp2
  go_ret
  exact ⟨by rw [HM.out]; rfl, hb1⟩
theorem ob_lit {w : World} {cs : Array Value} {l : List UInt8} (hcs : cs.toList = bvs l) (hm : l.length ≤ maxLen) : OB (w.alloc (.cells cs 5)) w.heap.size (.slice (some ⟨w.heap.size, 0, none⟩) l.length l.length) l := by
  have hlen : (bvs l).length = l.length := by simp [bvs]
  refine ⟨by rw [hlen, Nat.mul_one], .inr ⟨_, l.length, cs, rfl, Nat.le_refl _, heap_alloc_new w _, Nat.le_refl _, hm, ?_, ?_⟩⟩
  · rw [Nat.mul_one, ← Array.length_toList, hcs, hlen]
  · rw [hcs, Nat.mul_one, ← hlen, List.take_of_length_le (Nat.le_refl _)]
theorem bv_of {x : Int} {n : Nat} (h : x = ((n % 256 : Nat) : Int)) : (Value.int .u8 x) = bv (UInt8.ofNat n) := by
  unfold bv; rw [UInt8.toNat_ofNat', h]
theorem word_cells {c : Nat} (hc : c < 4294967296) : (#[Value.int .u8 ((c : Int) / 16777216), .int .u8 ((c : Int) / 65536 % 256), .int .u8 ((c : Int) / 256 % 256), .int .u8 ((c : Int) % 256)] : Array Value).toList = bvs (wordS c) := by
  unfold wordS bvs
  simp only [List.map]
  rw [bv_of (n := c / 16777216) (x := (c : Int) / 16777216) (by omega), bv_of (n := c / 65536) (x := (c : Int) / 65536 % 256) (by omega), bv_of (n := c / 256) (x := (c : Int) / 256 % 256) (by omega), bv_of (n := c) (x := (c : Int) % 256) (by omega)]
theorem sword {c : Nat} (hc : c < 4294967296) (w : World) : Calls Tryd.prog 71 #[.int .u32 c] w fun e w' => ∃ v, e = .returned v ∧ OB w' w.heap.size v (wordS c) ∧ Below w.heap.size w w' := by
  have HW := Lib.hid (word_cells hc)
  go_enter Tryd.func71, Tryd.ntmps71
  go_wp2
  go_ret
  exact ⟨_, rfl, ob_lit HW.out (show (wordS c).length ≤ maxLen by rw [wordS_len]; decide), (Below.refl _ w).alloc (Nat.le_refl _) _⟩
theorem unword_take {l : List UInt8} {k : Nat} (h : k < l.length) : unwordS (l.take (k + 1)) = unwordS (l.take k) * 256 + l[k].toNat := by
  unfold unwordS
  rw [List.take_succ_eq_append_getElem h, List.foldl_append]; rfl
theorem unword_lt : ∀ (l : List UInt8), unwordS l < 256 ^ l.length := fun l => by
  suffices h : ∀ (l : List UInt8) (c : Nat), l.foldl (fun c b => c * 256 + b.toNat) c < (c + 1) * 256 ^ l.length by
    have := h l 0
    rw [Nat.zero_add, Nat.one_mul] at this; exact this
  intro l
  induction l with
  | nil => intro c; simp
  | cons b l ih =>
    intro c
    have h1 := ih (c * 256 + b.toNat)
    have h2 := b.toNat_lt
    rw [List.foldl_cons, List.length_cons, Nat.pow_succ]
    have h3 : (c * 256 + b.toNat + 1) * 256 ^ l.length ≤ ((c + 1) * 256) * 256 ^ l.length := Nat.mul_le_mul_right _ (by omega)
    rw [Nat.mul_assoc, Nat.mul_comm 256] at h3
    omega
set_option maxRecDepth 100000 in
set_option maxHeartbeats 2000000 in
theorem sparse {w : World} {ao : Option Addr} {c : Nat} {l : List UInt8} (h : RB w (.slice ao l.length c) l) (hl : l.length = 4) :
    Calls Tryd.prog 66 #[.slice ao 4 c] w fun e w' => e = .returned (.tuple #[.int .u32 (unwordS l : Nat), .int .i64 0]) ∧ Below w.heap.size w w' := by
  have H := Lib.hid h
  clear h
  go_enter Tryd.func66, Tryd.ntmps66
  go_wp2
  go_loopw [4, 17] (fun v i wr => ∃ k : Nat, k ≤ 4 ∧ i = .int .i64 k ∧ v = .int .u32 (unwordS (l.take k) : Nat) ∧ Below w.heap.size w wr) (fun _ i _ => 4 - (intOf i).toNat)
  case atStart => exact ⟨0, Nat.zero_le _, rfl, rfl, Below.refl _ _⟩
  case round =>
    obtain ⟨k, hk, rfl, rfl, hbr⟩ := hrel
    have HBr := Lib.hid hbr
    by_cases hlt : k < 4
    · obtain ⟨b, off, rfl, d0⟩ := rb_cell H.out hbr k (by omega)
      have hst := unword_take (l := l) (k := k) (by omega)
      have hc0 := unword_lt (l.take k)
      have hc1 : unwordS (l.take k) < 16777216 := by
        have hlk : (l.take k).length ≤ 3 := by rw [List.length_take]; omega
        exact Nat.lt_of_lt_of_le hc0 (Nat.le_trans (Nat.pow_le_pow_right (by omega) hlk) (by decide))
      have hb := (l[k]).toNat_lt
      have HSt := Lib.hid hst
      generalize unwordS (l.take k) = c0 at *
      generalize (l[k]).toNat = b0 at *
      have hor : bits .or .u32 ((c0 : Int) * 256 % 4294967296) (b0 : Int) = ((c0 * 256 + b0 : Nat) : Int) := by
        have := bits_or32 (a := c0) (b := b0) 8 (by omega) (by omega)
        rw [show (c0 : Int) * 256 % 4294967296 = ((c0 * 2 ^ 8 : Nat) : Int) by omega]
        exact this
      have hor2 : bits .or .u32 ((c0 : Int) * 256) (b0 : Int) = ((c0 * 256 + b0 : Nat) : Int) := by
        have := bits_or32 (a := c0) (b := b0) 8 (by omega) (by omega)
        rw [show (c0 : Int) * 256 = ((c0 * 2 ^ 8 : Nat) : Int) by omega]
        exact this
      clear hst hc0 hbr
      go_wp2
      go_roundw
      case rel => exact ⟨k + 1, by omega, by go_num, by rw [HSt.out, Int.natCast_add, Int.natCast_mul]; rfl, HBr.out⟩
      case measure => simp [intOf]; omega
    · obtain rfl : k = 4 := by omega
      rw [List.take_of_length_le (by omega)]
      go_wp2
      go_ret2
      exact ⟨rfl, HBr.out⟩
end Go.Proofs.YtmhklmecpbdljaaDoor
/- Chapter 09: sums of bytes: the document's own walks. -/

namespace Go.Proofs.YtmhklmecpbdljaaDoor
open Go.RowKit
set_option linter.unusedVariables false
set_option linter.unusedSimpArgs false

theorem bits_xorp {c : Nat} (hc : c < 4294967296) : bits .xor .u32 ((c : Int) / 2) 2197175160 = ((c / 2 ^^^ 2197175160 : Nat) : Int) := by
  rw [show (c : Int) / 2 = ((c / 2 : Nat) : Int) by omega]; exact bits_xor32 (b := 2197175160) (by omega) (by decide)
end Go.Proofs.YtmhklmecpbdljaaDoor
