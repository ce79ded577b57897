/- Chapter 09: ReclogFrames. -/
import Derived.Test.YtkflingpogokcaaDoorYRl1
namespace Go.Proofs.YtkflingpogokcaaDoor
open Go.RowKit Go.Shelf
set_option linter.unusedVariables false
set_option linter.unusedSimpArgs false

theorem oneP0 : oneP [] = none := by unfold oneP; rfl
theorem ScanIs.whole {t : List UInt8} (h : t.length < 9223372036854775808) : ScanIs (frB t) [t] := by
  have := ScanIs.one h oneP0
  rwa [List.append_nil] at this
set_option maxRecDepth 100000 in
set_option maxHeartbeats 2000000 in
theorem law09_1 {w : World} {ao : Option Addr} {c : Nat} {b : List UInt8} (hT : Tab9 w) (h : RB w (.slice ao b.length c) b) (hm : b.length ≤ maxLen) :
    Calls Tryd.prog 3 #[.slice ao b.length c] w fun e w' => e = .returned (.bool true) ∧ Below w.heap.size w w' := by
  have HT := Lib.hid hT
  have H := Lib.hid h
  unfold maxLen at hm
  clear hT h
  by_cases h5 : 5000 < b.length
  · have HA := Lib.hid (awake09 HT.out)
    go_enter Tryd.func3, Tryd.ntmps3
    go_wp2_with fail; (with_reducible refine (HA.out).mono ?_); rintro e w1 ⟨rfl, hb1⟩
    go_wp2
    go_ret
    exact ⟨rfl, hb1⟩
  · have h9 := num_len9 (n := b.length) (by omega)
    have HL := Lib.hid (frB_len b)
    have hFl : (frB b).length ≤ 10000 := by have := HL.out; omega
    have HF := Lib.hid (rframe HT.out H.out (by omega))
    have hsz : Hid (∀ W : World, Calls Tryd.prog 14 #[.int .i64 b.length] W fun e w' => e = .returned (.int .i64 ((frB b).length : Nat)) ∧ W = w') := Lib.hid fun W => by
      have := rsize_any b.length W (by omega)
      rw [HL.out]
      exact this
    have hsn : Hid (∀ W : World, Calls Tryd.prog 14 #[.int .i64 (-1)] W fun e w' => e = .returned (.int .i64 0) ∧ W = w') := Lib.hid fun W => rsize_neg (-1) W (by decide)
    have HIS := Lib.hid (ScanIs.whole (t := b) (by omega))
    clear h9
    go_enter Tryd.func3, Tryd.ntmps3
    go_upto_region 3 with (fail)
    go_wp2_with fail; (with_reducible refine (HF.out).mono ?_); rintro e w1 ⟨v1, rfl, ho1, hb1⟩
    obtain ⟨a1, n1, c1, rfl, hm1⟩ := ho1.shape
    obtain rfl := ho1.len
    have HB1 := Lib.hid hb1
    have HR1 := Lib.hid ho1.reads
    clear ho1 hb1
    have HS := Lib.hid (scan_n (HT.out.below HB1.out) HR1.out (by omega))
    go_wp2_with fail; (with_reducible refine (HS.out).mono ?_); rintro e w2 ho2
    obtain ⟨g, gc, oc, oa, rfl, k0, hob, hoc, hb2⟩ := ho2.one HIS.out
    have HB2 := Lib.hid (HB1.out.trans (hb2.mono HB1.out.size))
    have HR2 := Lib.hid (HR1.out.below hb2)
    have HO2 := Lib.hid hob.reads
    clear ho2 hb2 hob
    have HF9 := Lib.hid (refframe (H.out.below HB2.out) (by omega))
    go_wp2_with fail; (with_reducible refine (HF9.out).mono ?_); rintro e w3 ⟨v3, rfl, ho3, hb3⟩
    have HB3 := Lib.hid (HB2.out.trans (hb3.mono HB2.out.size))
    have k3 := cell_next k0 _ hb3
    have HS1 := Lib.hid (same_b (HR2.out.below hb3) ho3.reads true (by rw [beq_iff_eq]))
    have HO3 := Lib.hid (HO2.out.below hb3)
    clear k0 ho3 hb3
    go_wp2_with fail; (with_reducible refine (HS1.out).mono ?_); rintro e w4 ⟨rfl, hb4⟩
    have HB4 := Lib.hid (HB3.out.trans (hb4.mono HB3.out.size))
    have k4 := cell_next k3 _ hb4
    have HS2 := Lib.hid (same_b (HO3.out.below hb4) (H.out.below HB4.out) true (by rw [beq_iff_eq]))
    clear k3 hb4
    go_wp2_with fail; (with_reducible refine (hsz.out _).mono ?_); rintro e w5 ⟨rfl, rfl⟩
    go_wp2_with fail; (with_reducible refine (hsn.out _).mono ?_); rintro e w6 ⟨rfl, rfl⟩
    go_wp2_with fail; (with_reducible refine (HS2.out).mono ?_); rintro e w7 ⟨rfl, hb7⟩
    have HB7 := Lib.hid (HB4.out.trans (hb7.mono HB4.out.size))
    have HA := Lib.hid (awake09 (HT.out.below HB7.out))
    go_wp2_with fail; (with_reducible refine (HA.out).mono ?_); rintro e w8 ⟨rfl, hb8⟩
    go_wp2
    go_ret
    exact ⟨rfl, HB7.out.trans (hb8.mono HB7.out.size)⟩
end Go.Proofs.YtkflingpogokcaaDoor
