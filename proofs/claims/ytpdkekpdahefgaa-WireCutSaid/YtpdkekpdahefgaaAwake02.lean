/- The contract of tithebarnlaw02.awake. -/
import Derived.Test.YtpdkekpdahefgaaWrMore
import Derived.Test.YtpdkekpdahefgaaRdNum
import Derived.Test.YtpdkekpdahefgaaSize
import Derived.Lib.SlBytesConst
namespace Go.Proofs.Ytpdkekpdahefgaa
open Go.RowKit
set_option linter.unusedVariables false

theorem WR.new (w : World) : WR (w.alloc (.cells #[.slice none 0 0, .bool false] 34)) w.heap.size w.heap.size (.slice none 0 0) [] false :=
  ⟨heap_alloc_new w _, OB.nil _ _, by simp [Value.ownBlock]⟩

theorem OB.at {w : World} {B n c : Nat} {a : Option Addr} {l : List UInt8} (h : OB w B (.slice a n c) l) (j : Nat) (hj : j < l.length) : ∃ b, a = some ⟨b, 0, none⟩ ∧ w.cell? ⟨b, j, none⟩ = some (bv l[j]) := by
  obtain ⟨g, cap, hv, _, _, _, hc⟩ := h.form (by omega)
  simp only [Value.slice.injEq] at hv
  exact ⟨g, hv.1, hc j hj⟩

set_option maxRecDepth 100000 in
set_option maxHeartbeats 2000000 in
theorem awake_any (w : World) :
    Calls Try.prog 10 #[] w fun e w' => e = .returned (.bool true) ∧ Below w.heap.size w w' := by
  have h0 := WR.new w
  have z0 : w.heap.size ≤ (w.alloc (.cells #[.slice none 0 0, .bool false] 34)).heap.size := by simp
  have h1 : Calls Try.prog 16 #[.pointer (some ⟨w.heap.size, 0, none⟩), .int .i64 300] _ _ := wnumber h0 300 (by decide) (by decide) z0
  have H1 := Lib.hid h1
  have H0 := Lib.hid h0
  have Z0 := Lib.hid z0
  clear h1 h0 z0
  have kc := fun (w : World) (C : Array Value) (n c : Nat) => Lib.run_convert_bytes_const (P := Try.prog) w 24 5 C n c Try.underlying24 Try.underlying5
  go_enter Try.func10, Try.ntmps10
  go_wp2_with fail; (with_reducible refine (H1.out).mono ?_); rintro e w1 ⟨rfl, v1, hw1, hc1, hl1⟩
  have hz1 := Nat.le_trans Z0.out hc1.size
  have hx : RB (w1.alloc (.cells #[.int .u8 120] 5 (1, 2))) (.slice (some ⟨w1.heap.size, 0, none⟩) 1 1) [120] := RB.fresh w1 [120] _ _ _ 1 1 rfl rfl (by decide)
  have hw1' := hw1.below ((Below.refl _ w1).alloc (Nat.le_refl _) (.cells #[.int .u8 120] 5 (1, 2)))
  have h2 : Calls Try.prog 27 #[.pointer (some ⟨w.heap.size, 0, none⟩), .slice (some ⟨w1.heap.size, 0, none⟩) 1 1] _ _ := wtext (m := [120]) hw1' hx (fun _ k hk hf => by
    have hk : w1.heap.size = k := by simpa [Value.ownBlock] using hk
    have := hw1.lt k hf
    omega) (by decide) (by simp; omega)
  have H2 := Lib.hid h2
  have Hc1 := Lib.hid ((hc1.alloc (.cells #[.int .u8 120] 5 (1, 2))).below (fun k hk => H0.out.ge (Nat.le_refl _) k hk) Z0.out)
  have Hw1 := Lib.hid hw1'
  have Zz : w.heap.size ≤ (w1.alloc (.cells #[.int .u8 120] 5 (1, 2))).heap.size := by simp; omega
  have Hz := Lib.hid Zz
  clear h2 hx hw1' hw1 hc1 hl1 Zz
  go_wp2_with fail; (with_reducible refine (H2.out).mono ?_); rintro e w2 ⟨rfl, v2, hw2, hc2, hl2⟩
  have hb2 : Below w.heap.size w w2 := (((Below.refl _ w).alloc (Nat.le_refl _) _).trans Hc1.out).trans (hc2.below (fun k hk => Hw1.out.ge (Nat.le_refl _) k hk) Hz.out)
  have e4 : ([] ++ num 300 ++ num ([120] : List UInt8).length ++ [120] : List UInt8) = [172, 2, 1, 120] := by decide
  rw [e4] at hw2
  have h3 := wbytes hw2 (by decide)
  have H3 := Lib.hid h3
  have B2 := Lib.hid hb2
  clear h3 hc2 hl2 hw2 hb2 e4 kc
  go_wp2_with fail; (with_reducible refine (H3.out).mono ?_); rintro e w3 ⟨v3, rfl, ho3, ⟨g, rfl⟩, hb3⟩
  have c0 : w3.cell? ⟨g, 0, none⟩ = some (.int .u8 172) := by
    obtain ⟨b, hb, hc⟩ := ho3.at 0 (by decide)
    cases hb; exact hc
  have s0 := cell_next c0
  have B3 := Lib.hid (B2.out.trans (hb3.mono B2.out.size))
  clear hb3 ho3 c0
  have hx : RB (w3.alloc (.cells #[.int .u8 172, .int .u8 2] 5)) (.slice (some ⟨w3.heap.size, 0, none⟩) 2 2) [172, 2] := RB.fresh w3 [172, 2] _ _ _ 2 2 rfl rfl (by decide)
  have B4 := (Below.refl w3.heap.size w3).alloc (Nat.le_refl _) (.cells #[.int .u8 172, .int .u8 2] 5)
  have h5 := newreader_any hx (by decide)
  have H5 := Lib.hid h5
  clear h5 hx
  go_wp2_with fail; (with_reducible refine (H5.out).mono ?_); rintro e w5 ⟨p, go, rfl, hp, hgo, hrd, hb5⟩
  have B5 := bnext B4 hb5
  have B5' := hb5
  have Hrd := Lib.hid hrd
  clear hb5 hrd
  have c0 := s0 w5 B5
  have Hb5 := Lib.hid B5
  have hb5' := B4
  have hb5z := B5'.size
  clear s0 B5 B4
  have hN := rnumber Hrd.out
  rw [show rdNum 9 true [172, 2] = some (300, []) by decide] at hN
  have HN := Lib.hid hN
  have Hp := Lib.hid (Nat.le_trans hb5'.size hp)
  clear hN hp
  go_wp2_with fail; (with_reducible refine (HN.out).mono ?_); rintro e w7 ⟨hg7, rfl, hrd7⟩
  have Hg7 := Lib.hid hg7
  have B7 := Lib.hid (Hb5.out.grown hg7 (Nat.le_trans hb5'.size hb5z) (fun k hk => by cases hk; exact Hp.out))
  have hd := done_any hrd7 0 (by simp)
  have Hd := Lib.hid hd
  clear hd hrd7 hg7
  go_wp2_with fail; (with_reducible refine (Hd.out).mono ?_); rintro e w8 ⟨rfl, hw8⟩
  subst hw8
  have hsz : ∀ w, Calls Try.prog 9 #[.int .i64 300] w fun e w' => e = .returned (.int .i64 (num 300).length) ∧ w = w' := fun w => size_any 300 w (by decide)
  have Hsz := Lib.hid hsz
  clear hsz
  go_wp2_with fail; (with_reducible refine (Hsz.out _).mono ?_); rintro e w9 ⟨rfl, hw9⟩
  subst hw9
  have e2 : (num 300).length = 2 := by decide
  rw [e2]
  go_wp2
  go_ret
  exact ⟨rfl, B3.out.trans (B7.out.mono B3.out.size)⟩
end Go.Proofs.Ytpdkekpdahefgaa
