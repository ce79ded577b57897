/- Chapter 09: sums of bytes: the walks. -/
import Derived.Test.YtkflingpogokcaaDoorYSu
import Derived.Test.YtkflingpogokcaaDoorYRd
namespace Go.Proofs.YtkflingpogokcaaDoor
open Go.RowKit
set_option linter.unusedVariables false
set_option linter.unusedSimpArgs false

theorem wrap_u32 (n : Int) : IntKind.u32.wrap n = n % 4294967296 := by
  simp only [IntKind.wrap, IntKind.bits, IntKind.signed]; simp
theorem bits_xor32 {a b : Nat} (ha : a < 4294967296) (hb : b < 4294967296) : bits .xor .u32 (a : Int) (b : Int) = ((a ^^^ b : Nat) : Int) := by
  show IntKind.u32.wrap ((BitVec.ofInt 32 a ^^^ BitVec.ofInt 32 b).toNat : Int) = _
  have h1 : (BitVec.ofInt 32 (a : Int)).toNat = a := by rw [BitVec.toNat_ofInt]; omega
  have h2 : (BitVec.ofInt 32 (b : Int)).toNat = b := by rw [BitVec.toNat_ofInt]; omega
  rw [BitVec.toNat_xor, h1, h2, wrap_u32]
  have := Nat.xor_lt_two_pow (n := 32) ha hb
  omega
theorem bits_and15 {a : Nat} (ha : a < 4294967296) : bits .and .u32 (a : Int) 15 = ((a % 16 : Nat) : Int) := by
  show IntKind.u32.wrap ((BitVec.ofInt 32 a &&& BitVec.ofInt 32 15).toNat : Int) = _
  have h1 : (BitVec.ofInt 32 (a : Int)).toNat = a := by rw [BitVec.toNat_ofInt]; omega
  have h2 : (BitVec.ofInt 32 (15 : Int)).toNat = 2 ^ 4 - 1 := by decide
  rw [BitVec.toNat_and, h1, h2, Nat.and_two_pow_sub_one_eq_mod, wrap_u32]; omega
theorem rb_cell {w wr : World} {ao : Option Addr} {n c : Nat} {l : List UInt8} (h : RB w (.slice ao n c) l) (hb : Below w.heap.size w wr) (k : Nat) (hk : k < l.length) : ∃ b off, ao = some ⟨b, off, none⟩ ∧ wr.cell? ⟨b, off + k, none⟩ = some (.int .u8 (l[k].toNat : Nat)) := by
  obtain ⟨ao', c', e, _, hr⟩ := h
  cases e
  obtain ⟨b, off, rfl, hc⟩ := hr (by omega)
  exact ⟨b, off, rfl, cell_next (hc k hk) _ hb⟩
theorem bits_nib {c h : Nat} (hc : c < 4294967296) (hh : h < 4294967296) : bits .xor .u32 ((c : Int) / 16) (h : Int) = ((c / 16 ^^^ h : Nat) : Int) := by
  rw [show (c : Int) / 16 = ((c / 16 : Nat) : Int) by omega]; exact bits_xor32 (by omega) hh
theorem bits_not32 {c : Nat} (hc : c < 4294967296) : bits .xor .u32 IntKind.u32.max (c : Int) = ((c ^^^ 4294967295 : Nat) : Int) := by
  rw [show IntKind.u32.max = ((4294967295 : Nat) : Int) by rfl, bits_xor32 (by omega) hc, Nat.xor_comm]
/-- the table lies as the program's text lays it -/
def Tab9 (w : World) : Prop := ∀ i, i < 16 → w.cell? ⟨0, i, none⟩ = some (.int .u32 (halfAt i : Nat))
theorem Tab9.below {w w' : World} (h : Tab9 w) (hb : Below w.heap.size w w') : Tab9 w' := fun i hi => cell_next (h i hi) _ hb
set_option maxRecDepth 100000 in
set_option maxHeartbeats 2000000 in
theorem more_any {w : World} {ao : Option Addr} {c : Nat} {l : List UInt8} (hT : Tab9 w) (h : RB w (.slice ao l.length c) l) (hl : l.length ≤ 140737488355327) :
    Calls Tryd.prog 55 #[.int .u32 0, .slice ao l.length c] w fun e w' => e = .returned (.int .u32 (sumOf l : Nat)) ∧ Below w.heap.size w w' := by
  have HT := Lib.hid hT
  have H := Lib.hid h
  clear hT h
  go_enter Tryd.func55, Tryd.ntmps55
  go_wp2
  go_loopw [0, 11] (fun v i wr => ∃ k : Nat, k ≤ l.length ∧ i = .int .i64 k ∧ v = .int .u32 (runS 4294967295 (l.take k) : Nat) ∧ Below w.heap.size w wr) (fun _ i _ => l.length - (intOf i).toNat)
  case atStart => exact ⟨0, Nat.zero_le _, rfl, rfl, Below.refl _ _⟩
  case round =>
    obtain ⟨k, hk, rfl, rfl, hbr⟩ := hrel
    have HBr := Lib.hid hbr
    by_cases hlt : k < l.length
    · obtain ⟨b, off, rfl, d0⟩ := rb_cell H.out hbr k hlt
      have hst := runS_take 4294967295 hlt
      have hc0 := runS_lt (l.take k) (show 4294967295 < 4294967296 by decide)
      rw [byte1_nib] at hst
      have hb := (l[k]).toNat_lt
      have HSt := Lib.hid hst
      generalize runS 4294967295 (l.take k) = c0 at *
      generalize (l[k]).toNat = b0 at *
      have x0 := bits_xor32 hc0 (show b0 < 4294967296 by omega)
      have h1 : (c0 ^^^ b0) < 4294967296 := Nat.xor_lt_two_pow (n := 32) hc0 (by omega)
      have hn1 : nib (c0 ^^^ b0) = ((c0 ^^^ b0) / 16) ^^^ halfAt ((c0 ^^^ b0) % 16) := rfl
      generalize c0 ^^^ b0 = c1 at *
      have hh : ∀ i, halfAt i < 4294967296 := fun i => by
        unfold halfAt
        by_cases hi : i < 16
        · have : ∀ j, j < 16 → half16.getD j 0 < 4294967296 := by decide +kernel
          exact this i hi
        · rw [List.getD, List.getElem?_eq_none (by show 16 ≤ i; omega)]; decide
      have a1 := bits_and15 h1
      have t1 := (HT.out.below hbr) (c1 % 16) (by omega)
      have x1 := bits_nib h1 (hh (c1 % 16))
      have h2 : (c1 / 16 ^^^ halfAt (c1 % 16)) < 4294967296 := Nat.xor_lt_two_pow (n := 32) (by omega) (hh _)
      have hn2 : nib (nib c1) = (nib c1 / 16) ^^^ halfAt (nib c1 % 16) := rfl
      rw [hn1] at hn2
      rw [hn1] at HSt
      generalize c1 / 16 ^^^ halfAt (c1 % 16) = c2 at *
      have a2 := bits_and15 h2
      have t2 := (HT.out.below hbr) (c2 % 16) (by omega)
      have x2 := bits_nib h2 (hh (c2 % 16))
      rw [show nib c2 = c2 / 16 ^^^ halfAt (c2 % 16) from rfl] at HSt
      have Hn := Lib.hid HSt.out
      generalize c2 / 16 ^^^ halfAt (c2 % 16) = c3 at *
      generalize halfAt (c1 % 16) = h1v at *
      generalize halfAt (c2 % 16) = h2v at *
      clear hst hn1 hn2 hh hbr
      go_wp2
      go_roundw
      case rel => exact ⟨k + 1, by omega, by go_num, by rw [Hn.out], HBr.out⟩
      case measure => simp [intOf]; omega
    · obtain rfl : k = l.length := by omega
      rw [List.take_of_length_le (Nat.le_refl _)]
      have hc0 := runS_lt l (show 4294967295 < 4294967296 by decide)
      have hs : (runS 4294967295 l ^^^ 4294967295) = sumOf l := rfl
      have HS := Lib.hid hs
      generalize runS 4294967295 l = c0 at *
      have x0 := bits_not32 hc0
      clear hs
      go_wp2
      go_ret
      exact ⟨by rw [← HS.out]; rfl, HBr.out⟩
theorem sum_of {w : World} {ao : Option Addr} {c : Nat} {l : List UInt8} (hT : Tab9 w) (h : RB w (.slice ao l.length c) l) (hl : l.length ≤ 140737488355327) :
    Calls Tryd.prog 36 #[.slice ao l.length c] w fun e w' => e = .returned (.int .u32 (sumOf l : Nat)) ∧ Below w.heap.size w w' := by
  have HM := Lib.hid (more_any hT h hl)
  clear hT h
  go_enter Tryd.func36, Tryd.ntmps36
  go_wp2_with fail; (with_reducible refine (HM.out).mono ?_); rintro e w1 ⟨rfl, hb1⟩
  go_wp2
  go_ret
  exact ⟨rfl, hb1⟩
theorem bits_or32 {a b : Nat} (k : Nat) (hb : b < 2 ^ k) (h : a * 2 ^ k + b < 4294967296) : bits .or .u32 ((a * 2 ^ k : Nat) : Int) (b : Int) = ((a * 2 ^ k + b : Nat) : Int) := by
  show IntKind.u32.wrap ((BitVec.ofInt 32 ((a * 2 ^ k : Nat) : Int) ||| BitVec.ofInt 32 b).toNat : Int) = _
  have h1 : (BitVec.ofInt 32 ((a * 2 ^ k : Nat) : Int)).toNat = a * 2 ^ k := by rw [BitVec.toNat_ofInt]; omega
  have h2 : (BitVec.ofInt 32 (b : Int)).toNat = b := by rw [BitVec.toNat_ofInt]; omega
  rw [BitVec.toNat_or, h1, h2, wrap_u32, Nat.mul_comm, ← Nat.two_pow_add_eq_or_of_lt hb]
  rw [Nat.mul_comm] at h
  omega
set_option maxHeartbeats 1000000 in
theorem rot_neg {c : Nat} (hc : c < 4294967296) (w : World) : Calls Tryd.prog 54 #[.int .u32 c, .int .i64 (-15)] w fun e w' => e = .returned (.int .u32 ((c / 32768 + c % 32768 * 131072 : Nat))) ∧ Below w.heap.size w w' := by
  have h17 : bits .and .u64 (IntKind.u64.wrap (-15)) 31 = 17 := by decide +kernel
  have hor : bits .or .u32 ((c : Int) * 131072 % 4294967296) ((c : Int) / 32768) = ((c / 32768 + c % 32768 * 131072 : Nat) : Int) := by
    have := bits_or32 (a := c % 32768) (b := c / 32768) 17 (by omega) (by omega)
    rw [show (c : Int) * 131072 % 4294967296 = ((c % 32768 * 2 ^ 17 : Nat) : Int) by omega, show (c : Int) / 32768 = ((c / 32768 : Nat) : Int) by omega, this]
    omega
  go_enter Tryd.func54, Tryd.ntmps54
  go_wp2
  go_ret
  exact ⟨by rw [show ((c / 32768 + c % 32768 * 131072 : Nat) : Int) = (c : Int) / 32768 + (c : Int) % 32768 * 131072 by omega]; rfl, Below.refl _ _⟩
set_option maxHeartbeats 1000000 in
theorem rot_pos {c : Nat} (hc : c < 4294967296) (w : World) : Calls Tryd.prog 54 #[.int .u32 c, .int .i64 15] w fun e w' => e = .returned (.int .u32 ((c % 131072 * 32768 + c / 131072 : Nat))) ∧ Below w.heap.size w w' := by
  have h15 : bits .and .u64 15 31 = 15 := by decide +kernel
  have hor : bits .or .u32 ((c : Int) * 32768 % 4294967296) ((c : Int) / 131072) = ((c % 131072 * 32768 + c / 131072 : Nat) : Int) := by
    have := bits_or32 (a := c % 131072) (b := c / 131072) 15 (by omega) (by omega)
    rw [show (c : Int) * 32768 % 4294967296 = ((c % 131072 * 2 ^ 15 : Nat) : Int) by omega, show (c : Int) / 131072 = ((c / 131072 : Nat) : Int) by omega, this]
  go_enter Tryd.func54, Tryd.ntmps54
  go_wp2
  go_ret
  exact ⟨by rw [show ((c % 131072 * 32768 + c / 131072 : Nat) : Int) = (c : Int) % 131072 * 32768 + (c : Int) / 131072 by omega]; rfl, Below.refl _ _⟩
theorem smask {c : Nat} (hc : c < 4294967296) (w : World) : Calls Tryd.prog 35 #[.int .u32 c] w fun e w' => e = .returned (.int .u32 (maskS c : Nat)) ∧ Below w.heap.size w w' := by
  have HR := Lib.hid (rot_neg hc w)
  have HM : Hid (maskS c = (c / 32768 + c % 32768 * 131072 + 2726488792) % 4294967296) := Lib.hid rfl
  generalize maskS c = m at *
  generalize c / 32768 + c % 32768 * 131072 = r at *
  go_enter Tryd.func35, Tryd.ntmps35
  go_wp2_with fail; (with_reducible refine (HR.out).mono ?_); rintro e w1 ⟨rfl, hb1⟩
  go_wp2
  go_ret
  refine ⟨?_, hb1⟩
  rw [HM.out]
  have : (((r + 2726488792) % 4294967296 : Nat) : Int) = ((r : Int) + 2726488792) % 4294967296 := by omega
  rw [this]
  rfl
theorem sunmask {m : Nat} (hm : m < 4294967296) (w : World) : Calls Tryd.prog 69 #[.int .u32 m] w fun e w' => e = .returned (.int .u32 (unmaskS m : Nat)) ∧ Below w.heap.size w w' := by
  have HR := Lib.hid (rot_pos (c := (m + 1568478504) % 4294967296) (by omega) w)
  have HM : Hid (unmaskS m = (m + 1568478504) % 4294967296 % 131072 * 32768 + (m + 1568478504) % 4294967296 / 131072) := Lib.hid rfl
  have hd : ((m : Int) - 2726488792) % 4294967296 = (((m + 1568478504) % 4294967296 : Nat) : Int) := by omega
  generalize (m + 1568478504) % 4294967296 = d at *
  go_enter Tryd.func69, Tryd.ntmps69
  go_wp2_with fail; (with_reducible refine (HR.out).mono ?_); rintro e w1 ⟨rfl, hb1⟩
  go_wp2
  go_ret
  exact ⟨by rw [HM.out]; rfl, hb1⟩
theorem ob_lit {w : World} {cs : Array Value} {l : List UInt8} (hcs : cs.toList = bvs l) (hm : l.length ≤ maxLen) : OB (w.alloc (.cells cs 5)) w.heap.size (.slice (some ⟨w.heap.size, 0, none⟩) l.length l.length) l := by
  have hlen : (bvs l).length = l.length := by simp [bvs]
  refine ⟨by rw [hlen, Nat.mul_one], .inr ⟨_, l.length, cs, rfl, Nat.le_refl _, heap_alloc_new w _, Nat.le_refl _, hm, ?_, ?_⟩⟩
  · rw [Nat.mul_one, ← Array.length_toList, hcs, hlen]
  · rw [hcs, Nat.mul_one, ← hlen, List.take_of_length_le (Nat.le_refl _)]
theorem bv_of {x : Int} {n : Nat} (h : x = ((n % 256 : Nat) : Int)) : (Value.int .u8 x) = bv (UInt8.ofNat n) := by
  unfold bv; rw [UInt8.toNat_ofNat', h]
theorem word_cells {c : Nat} (hc : c < 4294967296) : (#[Value.int .u8 ((c : Int) / 16777216), .int .u8 ((c : Int) / 65536 % 256), .int .u8 ((c : Int) / 256 % 256), .int .u8 ((c : Int) % 256)] : Array Value).toList = bvs (wordS c) := by
  unfold wordS bvs
  simp only [List.map]
  rw [bv_of (n := c / 16777216) (x := (c : Int) / 16777216) (by omega), bv_of (n := c / 65536) (x := (c : Int) / 65536 % 256) (by omega), bv_of (n := c / 256) (x := (c : Int) / 256 % 256) (by omega), bv_of (n := c) (x := (c : Int) % 256) (by omega)]
theorem sword {c : Nat} (hc : c < 4294967296) (w : World) : Calls Tryd.prog 34 #[.int .u32 c] w fun e w' => ∃ v, e = .returned v ∧ OB w' w.heap.size v (wordS c) ∧ Below w.heap.size w w' := by
  have HW := Lib.hid (word_cells hc)
  go_enter Tryd.func34, Tryd.ntmps34
  go_wp2
  go_ret
  exact ⟨_, rfl, ob_lit HW.out (show (wordS c).length ≤ maxLen by rw [wordS_len]; decide), (Below.refl _ w).alloc (Nat.le_refl _) _⟩
theorem unword_take {l : List UInt8} {k : Nat} (h : k < l.length) : unwordS (l.take (k + 1)) = unwordS (l.take k) * 256 + l[k].toNat := by
  unfold unwordS
  rw [List.take_succ_eq_append_getElem h, List.foldl_append]; rfl
theorem unword_lt : ∀ (l : List UInt8), unwordS l < 256 ^ l.length := fun l => by
  suffices h : ∀ (l : List UInt8) (c : Nat), l.foldl (fun c b => c * 256 + b.toNat) c < (c + 1) * 256 ^ l.length by
    have := h l 0
    rw [Nat.zero_add, Nat.one_mul] at this; exact this
  intro l
  induction l with
  | nil => intro c; simp
  | cons b l ih =>
    intro c
    have h1 := ih (c * 256 + b.toNat)
    have h2 := b.toNat_lt
    rw [List.foldl_cons, List.length_cons, Nat.pow_succ]
    have h3 : (c * 256 + b.toNat + 1) * 256 ^ l.length ≤ ((c + 1) * 256) * 256 ^ l.length := Nat.mul_le_mul_right _ (by omega)
    rw [Nat.mul_assoc, Nat.mul_comm 256] at h3
    omega
set_option maxRecDepth 100000 in
set_option maxHeartbeats 2000000 in
theorem sparse {w : World} {ao : Option Addr} {c : Nat} {l : List UInt8} (h : RB w (.slice ao l.length c) l) (hl : l.length = 4) :
    Calls Tryd.prog 68 #[.slice ao 4 c] w fun e w' => e = .returned (.tuple #[.int .u32 (unwordS l : Nat), .int .i64 0]) ∧ Below w.heap.size w w' := by
  have H := Lib.hid h
  clear h
  go_enter Tryd.func68, Tryd.ntmps68
  go_wp2
  go_loopw [4, 17] (fun v i wr => ∃ k : Nat, k ≤ 4 ∧ i = .int .i64 k ∧ v = .int .u32 (unwordS (l.take k) : Nat) ∧ Below w.heap.size w wr) (fun _ i _ => 4 - (intOf i).toNat)
  case atStart => exact ⟨0, Nat.zero_le _, rfl, rfl, Below.refl _ _⟩
  case round =>
    obtain ⟨k, hk, rfl, rfl, hbr⟩ := hrel
    have HBr := Lib.hid hbr
    by_cases hlt : k < 4
    · obtain ⟨b, off, rfl, d0⟩ := rb_cell H.out hbr k (by omega)
      have hst := unword_take (l := l) (k := k) (by omega)
      have hc0 := unword_lt (l.take k)
      have hc1 : unwordS (l.take k) < 16777216 := by
        have hlk : (l.take k).length ≤ 3 := by rw [List.length_take]; omega
        exact Nat.lt_of_lt_of_le hc0 (Nat.le_trans (Nat.pow_le_pow_right (by omega) hlk) (by decide))
      have hb := (l[k]).toNat_lt
      have HSt := Lib.hid hst
      generalize unwordS (l.take k) = c0 at *
      generalize (l[k]).toNat = b0 at *
      have hor : bits .or .u32 ((c0 : Int) * 256 % 4294967296) (b0 : Int) = ((c0 * 256 + b0 : Nat) : Int) := by
        have := bits_or32 (a := c0) (b := b0) 8 (by omega) (by omega)
        rw [show (c0 : Int) * 256 % 4294967296 = ((c0 * 2 ^ 8 : Nat) : Int) by omega]
        exact this
      have hor2 : bits .or .u32 ((c0 : Int) * 256) (b0 : Int) = ((c0 * 256 + b0 : Nat) : Int) := by
        have := bits_or32 (a := c0) (b := b0) 8 (by omega) (by omega)
        rw [show (c0 : Int) * 256 = ((c0 * 2 ^ 8 : Nat) : Int) by omega]
        exact this
      clear hst hc0 hbr
      go_wp2
      go_roundw
      case rel => exact ⟨k + 1, by omega, by go_num, by rw [HSt.out, Int.natCast_add, Int.natCast_mul]; rfl, HBr.out⟩
      case measure => simp [intOf]; omega
    · obtain rfl : k = 4 := by omega
      rw [List.take_of_length_le (by omega)]
      go_wp2
      go_ret2
      exact ⟨rfl, HBr.out⟩
end Go.Proofs.YtkflingpogokcaaDoor
