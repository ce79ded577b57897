/- awake of chapter 05; SkipDraws' walk. -/
import Derived.Test.YthpafhimmhacfaaSkG
import Derived.Test.YthpafhimmhacfaaSkipH
namespace Go.Proofs.Ythpafhimmhacfaa
open Go.RowKit
set_option linter.unusedVariables false
set_option linter.unusedSimpArgs false

theorem skipheight15 (w : World) : Calls Try.prog 9 #[.int .i64 15] w fun e w' => e = .returned (.int .i64 3) ∧ w = w' :=
  (skipheight 15 w (by decide) (by decide)).mono fun e w' ⟨h1, h2⟩ => ⟨by rw [h1]; rfl, h2⟩
set_option maxRecDepth 100000 in
set_option maxHeartbeats 2000000 in
theorem awake05 (w : World) : Calls Try.prog 11 #[] w fun e w' => e = .returned (.bool true) ∧ Below w.heap.size w w' := by
  have Hne := Lib.hid (LI.new w)
  go_enter Try.func11, Try.ntmps11
  go_wp2_with fail; (with_reducible refine (Hne.out).mono ?_); rintro e w1 ⟨p, F, rfl, hL, hb1⟩
  have hput := (LI.put hL (by decide) 5 50 3 (by decide) (by decide))
  rw [show ((3 : Nat) : Int) = 3 from rfl, show (!hI [] 5) = true by decide] at hput
  have Hput := Lib.hid hput
  have hsz := hb1.size
  clear hput hL Hne
  go_wp2_with fail; (with_reducible refine (Hput.out).mono ?_); rintro e w2 ⟨rfl, ⟨F2, hL2, _⟩, _, hb2⟩
  have hbb : Below w.heap.size w w2 := hb1.trans hb2
  have hce := LI.ceil hL2 (by decide) 4
  rw [show tkE (putE ilt [] 5 50 3) (ceilE (putE ilt [] 5 50 3) 4) = 5 by decide, show tvE (putE ilt [] 5 50 3) (ceilE (putE ilt [] 5 50 3) 4) = 50 by decide, show tbE (putE ilt [] 5 50 3) (ceilE (putE ilt [] 5 50 3) 4) = true by decide] at hce
  have Hce := Lib.hid hce
  have HL2 := Lib.hid hL2
  have HB := Lib.hid hbb
  clear hce hL2 hb1 hb2 hbb Hput
  go_wp2_with fail; (with_reducible refine (Hce.out).mono ?_); rintro e w3 ⟨rfl, hb3⟩
  have hL3 : LI w3 _ _ _ _ := HL2.out.below hb3
  have Hle := Lib.hid (LI.len hL3 (by decide))
  have HL3 := Lib.hid hL3
  have hbb : Below w.heap.size w w3 := HB.out.trans (hb3.mono HB.out.size)
  have HB3 := Lib.hid hbb
  clear hL3 Hce HL2 HB hb3 hbb
  have q4 : (putE ilt [] 5 50 3 : List (E3 Int Int)).length = 1 := by decide
  have q5 : htE (putE ilt [] 5 50 3) 5 = 3 := by decide
  rw [q4, show ((1 : Nat) : Int) = 1 from rfl] at Hle
  go_wp2_with fail; (with_reducible refine (Hle.out).mono ?_); rintro e w4 ⟨rfl, rfl⟩
  have hhe := LI.height HL3.out (by decide) 5
  rw [q5, show ((3 : Nat) : Int) = 3 from rfl] at hhe
  have Hhe := Lib.hid hhe
  clear hhe Hle HL3 q4 q5
  go_wp2_with fail; (with_reducible refine (Hhe.out).mono ?_); rintro e w5 ⟨rfl, hb5⟩
  have hbb : Below w.heap.size w w5 := HB3.out.trans (hb5.mono HB3.out.size)
  have HB5 := Lib.hid hbb
  clear Hhe HB3 hb5 hbb
  go_wp2_with fail; (with_reducible refine (skipheight15 w5).mono ?_); rintro e w6 ⟨rfl, rfl⟩
  go_wp2
  go_ret
  exact ⟨rfl, HB5.out⟩
theorem heightOf_pos (draw : Int) : 1 ≤ heightOf draw ∧ heightOf draw ≤ 12 := by
  unfold heightOf
  have := hts_le 11 (draw % 18446744073709551616).toNat
  omega
set_option maxRecDepth 100000 in
set_option maxHeartbeats 2000000 in
theorem draws_walk (draw : Int) (w : World) (h0 : -9223372036854775808 ≤ draw) (h1 : draw ≤ 9223372036854775807) :
    Calls Try.prog 3 #[.int .i64 draw] w fun e w' => e = .returned (.bool true) ∧ Below w.heap.size w w' := by
  have Hs := Lib.hid (skipheight draw w h0 h1)
  have Hr := Lib.hid (refheight draw w h0 h1)
  obtain ⟨hp1, hp2⟩ := heightOf_pos draw
  have Haw := Lib.hid (awake05 w)
  generalize heightOf draw = H at *
  have e1 : (1 : Int) ≤ (H : Int) := by omega
  have e2 : (H : Int) ≤ 12 := by omega
  go_enter Try.func3, Try.ntmps3
  go_wp2_with fail; (with_reducible refine (Hs.out).mono ?_); rintro e w1 ⟨rfl, rfl⟩
  go_wp2_with fail; (with_reducible refine (Hr.out).mono ?_); rintro e w1 ⟨rfl, rfl⟩
  go_wp2_with fail; (with_reducible refine (Haw.out).mono ?_); rintro e w2 ⟨rfl, hb2⟩
  have HB2 := Lib.hid hb2
  clear hb2
  go_wp2
  go_ret
  exact ⟨rfl, HB2.out⟩
end Go.Proofs.Ythpafhimmhacfaa
