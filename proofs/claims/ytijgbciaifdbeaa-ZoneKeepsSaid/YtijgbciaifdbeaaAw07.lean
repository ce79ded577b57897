/- awake of chapter 07. -/
import Derived.Test.YtijgbciaifdbeaaZl
import Derived.Lib.SlBytesConst
namespace Go.Proofs.Ytijgbciaifdbeaa
open Go.RowKit
set_option linter.unusedVariables false
set_option linter.unusedSimpArgs false

def aw0 : Dv := dv0 2 16 1
def aw1 : Dv := ⟨2, 16, 1, [⟨1, [97, 98], 0⟩, ⟨0, [], 0⟩], -1, 1, false⟩
def aw2 : Dv := ⟨2, 16, 1, [⟨1, [97, 98], 2⟩, ⟨0, [], 0⟩], -1, 2, false⟩
def aw3 : Dv := ⟨2, 16, 1, [⟨1, [97, 98, 99, 100], 2⟩, ⟨0, [], 0⟩], -1, 3, false⟩
def aw4 : Dv := ⟨2, 16, 1, [⟨1, [97, 98, 99], 3⟩, ⟨0, [], 0⟩], -1, 3, false⟩
theorem aw_1 : zapp aw0 0 [97, 98] = (aw1, 0) := by kernel_rfl
theorem aw_2 : zapp aw1 1 [120] = (aw1, 72) := by kernel_rfl
theorem aw_3 : zflu aw1 = (aw2, 0) := by kernel_rfl
theorem aw_4 : zapp aw2 0 [99, 100] = (aw3, 0) := by kernel_rfl
theorem aw_5 : zcrs aw3 [1] = aw4 := by kernel_rfl
set_option maxRecDepth 100000 in
set_option maxHeartbeats 4000000 in
theorem awake07 (w : World) : Calls Try.prog 8 #[] w fun e w' => e = .returned (.bool true) ∧ Below w.heap.size w w' := by
  have hn : Calls Try.prog 7 #[.agg #[.int .i64 2, .int .i64 16, .int .i64 1]] w fun e w' => ∃ p F, e = .returned (.pointer (some ⟨p, 0, none⟩)) ∧ DI w' w.heap.size p F aw0 ∧ Below w.heap.size w w' := DI.new w 2 16 1 (by decide)
  have HN := Lib.hid hn
  clear hn
  have kc := fun (w : World) (C : Array Value) (n c : Nat) => Lib.run_convert_bytes_const (P := Try.prog) w 28 5 C n c Try.underlying28 Try.underlying5
  go_enter Try.func8, Try.ntmps8
  go_wp2_with fail; (with_reducible refine (HN.out).mono ?_); rintro e w1 ⟨p, F1, rfl, hD1, hb1⟩
  have hD1a := hD1.below ((Below.refl _ w1).alloc (Nat.le_refl _) (.cells #[.int .u8 97, .int .u8 98] 5 (2, 3)))
  have hb1a := hb1.alloc hb1.size (.cells #[.int .u8 97, .int .u8 98] 5 (2, 3))
  have Ha1 := Lib.hid (hD1a.append (by decide) 0 (RB.fresh w1 [97, 98] #[.int .u8 97, .int .u8 98] 5 (2, 3) 2 2 rfl rfl (by decide)) (by decide) aw_1)
  have HD1 := Lib.hid hD1a
  have HB1 := Lib.hid hb1a
  clear hD1 hb1 hD1a hb1a HN
  go_wp2_with fail; (with_reducible refine (Ha1.out).mono ?_); rintro e w2 ⟨rfl, ho2⟩
  have hb2 := HB1.out.trans (ho2.below HD1.out)
  obtain ⟨⟨F2, hD2, _⟩, _⟩ := ho2
  have hD2a := hD2.below ((Below.refl _ w2).alloc (Nat.le_refl _) (.cells #[.int .u8 120] 5 (1, 2)))
  have hb2a := hb2.alloc hb2.size (.cells #[.int .u8 120] 5 (1, 2))
  have Ha2 := Lib.hid (hD2a.append (by decide) 1 (RB.fresh w2 [120] #[.int .u8 120] 5 (1, 2) 1 1 rfl rfl (by decide)) (by decide) aw_2)
  have HD2 := Lib.hid hD2a
  have HB2 := Lib.hid hb2a
  clear hD2 hb2 hD2a hb2a Ha1 HD1 HB1
  go_wp2_with fail; (with_reducible refine (Ha2.out).mono ?_); rintro e w3 ⟨rfl, ho3⟩
  have hb3 := HB2.out.trans (ho3.below HD2.out)
  obtain ⟨⟨F3, hD3, _⟩, _⟩ := ho3
  have Ha3 := Lib.hid (hD3.flush (by decide) aw_3)
  have HD3 := Lib.hid hD3
  have HB3 := Lib.hid hb3
  clear hD3 hb3 Ha2 HD2 HB2
  go_wp2_with fail; (with_reducible refine (Ha3.out).mono ?_); rintro e w4 ⟨rfl, ho4⟩
  have hb4 := HB3.out.trans (ho4.below HD3.out)
  obtain ⟨⟨F4, hD4, _⟩, _⟩ := ho4
  have hD4a := hD4.below ((Below.refl _ w4).alloc (Nat.le_refl _) (.cells #[.int .u8 99, .int .u8 100] 5 (2, 3)))
  have hb4a := hb4.alloc hb4.size (.cells #[.int .u8 99, .int .u8 100] 5 (2, 3))
  have Ha4 := Lib.hid (hD4a.append (by decide) 0 (RB.fresh w4 [99, 100] #[.int .u8 99, .int .u8 100] 5 (2, 3) 2 2 rfl rfl (by decide)) (by decide) aw_4)
  have HD4 := Lib.hid hD4a
  have HB4 := Lib.hid hb4a
  clear hD4 hb4 hD4a hb4a Ha3 HD3 HB3
  go_wp2_with fail; (with_reducible refine (Ha4.out).mono ?_); rintro e w5 ⟨rfl, ho5⟩
  have hb5 := HB4.out.trans (ho5.below HD4.out)
  obtain ⟨⟨F5, hD5, _⟩, _⟩ := ho5
  have hD5a := hD5.below ((Below.refl _ w5).alloc (Nat.le_refl _) (.cells #[.int .i64 1] 3))
  have hb5a := hb5.alloc hb5.size (.cells #[.int .i64 1] 3)
  have hkz : KZ (w5.alloc (.cells #[.int .i64 1] 3)) (some ⟨w5.heap.size, 0, none⟩) [1] := fun _ => ⟨w5.heap.size, 0, rfl, fun i hi => by
    rw [cell_of_row _ _ _ _ _ _ (heap_alloc_new w5 _)]
    simp only [List.length_cons, List.length_nil] at hi
    obtain rfl : i = 0 := by omega
    rfl⟩
  have hfar : ∀ b off, (some ⟨w5.heap.size, 0, none⟩ : Option Addr) = some ⟨b, off, none⟩ → ¬ F5 b := fun b off e hb => by
    simp only [Option.some.injEq, Addr.mk.injEq] at e
    have := (hD5.ge b hb).2
    omega
  have Ha5 := Lib.hid (hD5a.crash (n := 1) (ck := 1) hkz rfl (by decide) (fun _ => hfar) aw_5)
  have HD5 := Lib.hid hD5a
  have HB5 := Lib.hid hb5a
  clear hD5 hb5 hD5a hb5a Ha4 HD4 HB4 hkz hfar
  go_wp2_with fail; (with_reducible refine (Ha5.out).mono ?_); rintro e w6 ⟨rfl, ho6⟩
  have hb6 := HB5.out.trans (ho6.below HD5.out)
  obtain ⟨⟨F6, hD6, _⟩, _⟩ := ho6
  have Hp := Lib.hid (hD6.pointer 0)
  have Hs := Lib.hid (hD6.state 0)
  have Ho := Lib.hid (hD6.opened)
  have e1 : zpt aw4 0 = 3 := by kernel_rfl
  have e2 : zst aw4 0 = 1 := by kernel_rfl
  have e3 : ((zopn aw4.A : Nat) : Int) = 1 := by kernel_rfl
  rw [e1] at Hp
  rw [e2] at Hs
  rw [e3] at Ho
  have HB6 := Lib.hid hb6
  clear hD6 hb6 Ha5 HD5 HB5 e1 e2 e3
  go_wp2_with fail; (with_reducible refine (Hp.out).mono ?_); rintro e w6 ⟨rfl, rfl⟩
  go_wp2_with fail; (with_reducible refine (Hs.out).mono ?_); rintro e w6 ⟨rfl, rfl⟩
  go_wp2_with fail; (with_reducible refine (Ho.out).mono ?_); rintro e w7 ⟨rfl, hb7⟩
  go_wp2
  go_ret
  exact ⟨rfl, bnext HB6.out hb7⟩
end Go.Proofs.Ytijgbciaifdbeaa
