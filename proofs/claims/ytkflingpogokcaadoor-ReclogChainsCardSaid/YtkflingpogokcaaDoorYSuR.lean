/- Chapter 09: sums of bytes: the document's own walks. -/
import Derived.Test.YtkflingpogokcaaDoorYSuW
namespace Go.Proofs.YtkflingpogokcaaDoor
open Go.RowKit
set_option linter.unusedVariables false
set_option linter.unusedSimpArgs false

theorem bits_xorp {c : Nat} (hc : c < 4294967296) : bits .xor .u32 ((c : Int) / 2) 2197175160 = ((c / 2 ^^^ 2197175160 : Nat) : Int) := by
  rw [show (c : Int) / 2 = ((c / 2 : Nat) : Int) by omega]; exact bits_xor32 (b := 2197175160) (by omega) (by decide)
set_option maxRecDepth 100000 in
set_option maxHeartbeats 2000000 in
theorem refrun {w : World} {ao : Option Addr} {c : Nat} {l : List UInt8} {a : Nat} (ha : a < 4294967296) (h : RB w (.slice ao l.length c) l) (hl : l.length ≤ 140737488355327) :
    Calls Tryd.prog 58 #[.int .u32 a, .slice ao l.length c] w fun e w' => e = .returned (.int .u32 (runS a l : Nat)) ∧ Below w.heap.size w w' := by
  have H := Lib.hid h
  clear h
  go_enter Tryd.func58, Tryd.ntmps58
  go_wp2
  go_loopw [0, 5] (fun v i wr => ∃ k : Nat, k ≤ l.length ∧ i = .int .i64 k ∧ v = .int .u32 (runS a (l.take k) : Nat) ∧ Below w.heap.size w wr) (fun _ i _ => l.length - (intOf i).toNat)
  case atStart => exact ⟨0, Nat.zero_le _, rfl, rfl, Below.refl _ _⟩
  case round =>
    obtain ⟨k, hk, rfl, rfl, hbr⟩ := hrel
    have HBr := Lib.hid hbr
    by_cases hlt : k < l.length
    · obtain ⟨b, off, rfl, d0⟩ := rb_cell H.out hbr k hlt
      have hst := runS_take a hlt
      have hc0 := runS_lt (l.take k) ha
      rw [byte1] at hst
      have hb := (l[k]).toNat_lt
      have HSt := Lib.hid hst
      generalize runS a (l.take k) = c0 at *
      generalize (l[k]).toNat = b0 at *
      have x0 := bits_xor32 hc0 (show b0 < 4294967296 by omega)
      have h1 : (c0 ^^^ b0) < 4294967296 := Nat.xor_lt_two_pow (n := 32) hc0 (by omega)
      generalize c0 ^^^ b0 = c1 at *
      have Hn := Lib.hid HSt.out
      clear hst hbr HSt
      go_wp2
      rename_i wr
      go_loopw [0, 6] (fun v i wx => ∃ j : Nat, j ≤ 8 ∧ i = .int .i64 j ∧ v = .int .u32 (bitN j c1 : Nat) ∧ Below w.heap.size w wx) (fun _ i _ => 8 - (intOf i).toNat)
      case atStart => exact ⟨0, Nat.zero_le _, rfl, rfl, HBr.out⟩
      case round =>
        obtain ⟨j, hj, rfl, rfl, hbx⟩ := hrel
        have HBx := Lib.hid hbx
        clear hbx
        have hlt2 := bitN_lt j h1
        by_cases hj8 : j < 8
        · have HS : Hid (bitN (j + 1) c1 = bit1 (bitN j c1)) := Lib.hid (bitN_succ j c1)
          generalize bitN j c1 = d at *
          by_cases hodd : d % 2 = 1
          · have hodd2 : (d : Int) % 2 = 1 := by omega
            have xp := bits_xorp hlt2
            have HE : Hid (bit1 d = d / 2 ^^^ 2197175160) := Lib.hid (by unfold bit1; rw [if_pos hodd])
            go_wp2
            go_roundw
            case rel => exact ⟨j + 1, by omega, by go_num, by rw [HS.out, HE.out], HBx.out⟩
            case measure => simp [intOf]; omega
          · have hodd2 : (d : Int) % 2 = 0 := by omega
            have HE : Hid (bit1 d = d / 2) := Lib.hid (by unfold bit1; rw [if_neg hodd])
            go_wp2
            go_roundw
            case rel => exact ⟨j + 1, by omega, by go_num, by rw [HS.out, HE.out]; first | rfl | (go_num; done) | (congr 1; omega), HBx.out⟩
            case measure => simp [intOf]; omega
        · obtain rfl : j = 8 := by omega
          rw [← Hn.out]
          go_wp2
          go_roundw
          case rel => exact ⟨k + 1, by omega, by go_num, rfl, HBx.out⟩
          case measure => simp [intOf]; omega
    · obtain rfl : k = l.length := by omega
      rw [List.take_of_length_le (Nat.le_refl _)]
      go_wp2
      go_ret
      exact ⟨rfl, HBr.out⟩
theorem refof {w : World} {ao : Option Addr} {c : Nat} {l : List UInt8} (h : RB w (.slice ao l.length c) l) (hl : l.length ≤ 140737488355327) :
    Calls Tryd.prog 40 #[.slice ao l.length c] w fun e w' => e = .returned (.int .u32 (sumOf l : Nat)) ∧ Below w.heap.size w w' := by
  have HM : Hid (Calls Tryd.prog 58 #[.int .u32 4294967295, .slice ao l.length c] w fun e w' => e = .returned (.int .u32 (runS 4294967295 l : Nat)) ∧ Below w.heap.size w w') := Lib.hid (refrun (a := 4294967295) (by decide) h hl)
  have hc0 := runS_lt l (show 4294967295 < 4294967296 by decide)
  have hs : (runS 4294967295 l ^^^ 4294967295) = sumOf l := rfl
  have HS := Lib.hid hs
  have x0 := bits_xor32 hc0 (show 4294967295 < 4294967296 by decide)
  generalize runS 4294967295 l = c0 at *
  clear hs h
  go_enter Tryd.func40, Tryd.ntmps40
  go_wp2_with fail; (with_reducible refine (HM.out).mono ?_); rintro e w1 ⟨rfl, hb1⟩
  go_wp2
  go_ret
  refine ⟨?_, hb1⟩
  rw [← HS.out]
  show Ending.returned (.int .u32 (bits .xor .u32 (c0 : Int) ((4294967295 : Nat) : Int))) = _
  rw [x0]
theorem refmask {c : Nat} (hc : c < 4294967296) (w : World) : Calls Tryd.prog 39 #[.int .u32 c] w fun e w' => e = .returned (.int .u32 (maskS c : Nat)) ∧ Below w.heap.size w w' := by
  have HM : Hid (maskS c = (c / 32768 + c % 32768 * 131072 + 2726488792) % 4294967296) := Lib.hid rfl
  go_enter Tryd.func39, Tryd.ntmps39
  go_wp2
  go_ret
  refine ⟨?_, Below.refl _ _⟩
  rw [HM.out]
  congr 2
end Go.Proofs.YtkflingpogokcaaDoor
