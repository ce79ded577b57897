/- The contract of block.Open. -/
import Derived.Test.YtebnllpcagkkbaaBprs
import Derived.Test.YtebnllpcagkkbaaAw12
import Derived.Test.YtebnllpcagkkbaaLess
namespace Go.Proofs.Ytebnllpcagkkbaa
open Go.RowKit
set_option linter.unusedVariables false
set_option linter.unusedSimpArgs false

theorem equal_b {w : World} {v u : Value} {l m : List UInt8} (h : RB w v l) (k : RB w u m) :
    Calls Try.prog 35 #[v, u] w fun e w' => e = .returned (.bool (l == m)) ∧ w = w' := by
  have h1 := h.string
  have h2 := k.string
  go_enter Try.func35, Try.ntmps35
  go_wp2
  go_ret
  refine ⟨?_, rfl⟩
  simp [Lib.toList_data]

def beN (l : List UInt8) : Nat := l.foldl (fun a c => 256 * a + c.toNat) 0
theorem beN_snoc (l : List UInt8) (c : UInt8) : beN (l ++ [c]) = 256 * beN l + c.toNat := by unfold beN; rw [List.foldl_append]; rfl
theorem beN_lt4 (l : List UInt8) (a : Nat) : l.foldl (fun a c => 256 * a + c.toNat) a + 1 ≤ (a + 1) * 256 ^ l.length := by
  induction l generalizing a with
  | nil => simp
  | cons c l ih =>
    rw [List.foldl_cons, List.length_cons]
    refine Nat.le_trans (ih _) ?_
    have := c.toNat_lt
    rw [Nat.pow_succ, Nat.mul_comm (256 ^ l.length) 256, ← Nat.mul_assoc]
    exact Nat.mul_le_mul_right _ (by omega)
theorem beN_lt (l : List UInt8) : beN l < 256 ^ l.length := by
  have := beN_lt4 l 0
  unfold beN; omega
theorem or_byte32 (a c : Nat) (ha : a < 16777216) (hc : c < 256) : bits .or .u32 ((a : Int) * 256) (c : Int) = ((256 * a + c : Nat) : Int) := by
  have hx : a * 256 ||| c < 2 ^ 32 := Nat.or_lt_two_pow (by omega) (by omega)
  have hs : a * 256 ||| c = 256 * a + c := by
    have := Nat.two_pow_add_eq_or_of_lt (i := 8) (b := c) (by omega) a
    rw [Nat.mul_comm a 256]
    exact this.symm
  have e0 : ((a : Int) * 256) = ((a * 256 : Nat) : Int) := by omega
  rw [e0]
  have h1 : (BitVec.ofInt 32 ((a * 256 : Nat) : Int)).toNat = a * 256 := by
    rw [BitVec.ofInt_natCast, BitVec.toNat_ofNat]; exact Nat.mod_eq_of_lt (by omega)
  have h2 : (BitVec.ofInt 32 (c : Int)).toNat = c := by
    rw [BitVec.ofInt_natCast, BitVec.toNat_ofNat]; exact Nat.mod_eq_of_lt (by omega)
  show IntKind.u32.wrap ((BitVec.ofInt 32 ((a * 256 : Nat) : Int) ||| BitVec.ofInt 32 (c : Int)).toNat : Int) = _
  rw [BitVec.toNat_or, h1, h2, hs]
  simp only [IntKind.wrap, IntKind.bits, IntKind.signed]
  simp
  omega

set_option maxHeartbeats 1000000 in
theorem parse_four {w : World} {b off c : Nat} {l : List UInt8} (h4 : l.length = 4) (h : ∀ j (hj : j < l.length), w.cell? ⟨b, off + j, none⟩ = some (.int .u8 ((l[j]).toNat : Int))) :
    Calls Try.prog 33 #[.slice (some ⟨b, off, none⟩) 4 c] w fun e w' => e = .returned (.tuple #[.int .u32 (beN l : Nat), .int .i64 0]) ∧ w = w' := by
  have H := Lib.hid h
  have H4 := Lib.hid h4
  clear h h4
  go_enter Try.func33, Try.ntmps33
  go_wp2
  go_loopw [4, 17] (fun v i wr => ∃ k : Nat, k ≤ 4 ∧ i = .int .i64 k ∧ v = .int .u32 (beN (l.take k) : Nat) ∧ w = wr) (fun _ i _ => 4 - (intOf i).toNat)
  case atStart => exact ⟨0, by decide, rfl, rfl, rfl⟩
  case round =>
    obtain ⟨k, hk, rfl, rfl, rfl⟩ := hrel
    by_cases hlt : k < 4
    · have hkl : k < l.length := by rw [H4.out]; exact hlt
      have hc := H.out k hkl
      have hb := beN_lt (l.take k)
      have hp : 256 ^ (l.take k).length ≤ 16777216 := by
        rw [List.length_take]
        exact Nat.pow_le_pow_right (by decide) (show min k l.length ≤ 3 by omega)
      have hcl := (l[k]).toNat_lt
      have Hn : Hid (beN (l.take (k + 1)) = 256 * beN (l.take k) + (l[k]).toNat) := Lib.hid (by rw [List.take_succ_eq_append_getElem hkl, beN_snoc])
      have hor := or_byte32 (beN (l.take k)) (l[k]).toNat (by omega) hcl
      generalize (l[k]).toNat = y at *
      have hbz : beN (l.take k) < 16777216 := by omega
      generalize beN (l.take k) = z at *
      have hw : IntKind.u32.wrap ((z : Int) * 256) = (z : Int) * 256 := by simp only [IntKind.wrap, IntKind.bits, IntKind.signed]; simp; omega
      have hw2 : ((z : Int) * 256) % 4294967296 = (z : Int) * 256 := by omega
      clear hb hp hkl
      go_wp2
      go_roundw
      case rel => exact ⟨k + 1, by omega, by go_num, by rw [Hn.out]; go_num, by first | rfl | trivial⟩
      case measure => simp [intOf]; omega
    · obtain rfl : k = 4 := by omega
      have Hn : Hid (l.take 4 = l) := Lib.hid (List.take_of_length_le (by rw [H4.out]; exact Nat.le_refl _))
      go_wp2
      go_ret2
      rw [Hn.out]
      exact ⟨rfl, rfl⟩
end Go.Proofs.Ytebnllpcagkkbaa
