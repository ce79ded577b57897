/- Chapter 11: MemDraws: its walk. -/
import Derived.Test.YtcbkjhbneigkaaaYMf
import Derived.Test.YtcbkjhbneigkaaaYMx
namespace Go.Proofs.Ytcbkjhbneigkaaa
open Go.RowKit
set_option linter.unusedVariables false
set_option linter.unusedSimpArgs false

set_option maxRecDepth 100000 in
set_option maxHeartbeats 4000000 in
theorem draws11 {w : World} {a a1 a2 : Option Addr} {c c1 c2 : Nat} {l : List BatD} {D1 D2 : List Int} (h : BTs w a l) (h1 : IR w a1 D1) (h2 : IR w a2 D2) (hl : l.length ≤ maxLen) (hm1 : D1.length ≤ maxLen) (hm2 : D2.length ≤ maxLen) :
    Calls Try.prog 5 #[.slice a l.length c, .slice a1 D1.length c1, .slice a2 D2.length c2] w fun e w' => e = .returned (.bool true) ∧ Below w.heap.size w w' := by
  have H := Lib.hid h
  have H1 := Lib.hid h1
  have H2 := Lib.hid h2
  have HSm := Lib.hid (msmall (c := c) h hl)
  have HM1 := Lib.hid hm1
  have HM2 := Lib.hid hm2
  unfold maxLen at hm1 hm2
  clear h h1 h2
  cases hs : small11 l with
  | false =>
    rw [hs] at HSm
    clear hs
    go_enter Try.func5, Try.ntmps5
    go_wp2_with fail; (with_reducible refine (HSm.out).mono ?_); rintro e w1 ⟨rfl, hb1⟩
    go_wp2_with fail; (with_reducible refine (awake11 _).mono ?_); rintro e w2 ⟨rfl, hb2⟩
    go_wp2
    go_ret
    exact ⟨rfl, bnext hb1 hb2⟩
  | true =>
    rw [hs] at HSm
    obtain ⟨hs30, _⟩ := small11_all hs
    clear hs
    by_cases hd : D1.length ≤ 100 ∧ D2.length ≤ 100
    case neg =>
      have hd2 : 100 < D1.length ∨ (D1.length ≤ 100 ∧ 100 < D2.length) := by omega
      clear hd
      rcases hd2 with hd | ⟨hd, hd2⟩
      all_goals
        go_enter Try.func5, Try.ntmps5
        go_wp2_with fail; (with_reducible refine (HSm.out).mono ?_); rintro e w1 ⟨rfl, hb1⟩
        go_wp2_with fail; (with_reducible refine (awake11 _).mono ?_); rintro e w2 ⟨rfl, hb2⟩
        go_wp2
        go_ret
        exact ⟨rfl, bnext hb1 hb2⟩
    obtain ⟨hd, hd2⟩ := hd
    go_enter Try.func5, Try.ntmps5
    go_wp2_with fail; (with_reducible refine (HSm.out).mono ?_); rintro e w1 ⟨rfl, hb1⟩
    have HFa := Lib.hid (mfill (c := c) (dc := c1) (H.out.below hb1) (H1.out.below hb1) hs30 HM1.out)
    go_wp2_with fail; (with_reducible refine (HFa.out).mono ?_); rintro e w2 ⟨t, p, F, v, rfl, hT, hR, hb2⟩
    have HB2 := Lib.hid (bnext hb1 hb2)
    have HFb := Lib.hid (mfill (c := c) (dc := c2) (H.out.below HB2.out) (H2.out.below HB2.out) hs30 HM2.out)
    have HT := Lib.hid hT
    have hln := fillN_len l l.length (Nat.le_refl _)
    clear hT hR hb2 hb1
    go_wp2_with fail; (with_reducible refine (HFb.out).mono ?_); rintro e w3 ⟨t2, p2, F2, v2, rfl, hT2, hR2, hb3⟩
    have HB3 := Lib.hid (bnext HB2.out hb3)
    have HE1 := Lib.hid ((HT.out.below hb3).entries (by omega))
    have HT2 := Lib.hid hT2
    generalize (fillN l l.length).1 = M at *
    generalize (fillN l l.length).2 = last at *
    clear hT2 hR2 hb3
    go_wp2_with fail; (with_reducible refine (HE1.out).mono ?_); rintro e w4 ⟨x, rfl, ho4, hb4⟩
    have HB4 := Lib.hid (bnext HB3.out hb4)
    have HE2 := Lib.hid ((HT2.out.below hb4).entries (by omega))
    obtain ⟨ax, cx, rfl, _⟩ := row_shape ho4
    have HX := Lib.hid ho4
    clear ho4 hb4
    go_wp2_with fail; (with_reducible refine (HE2.out).mono ?_); rintro e w5 ⟨y, rfl, ho5, hb5⟩
    have HB5 := Lib.hid (bnext HB4.out hb5)
    obtain ⟨ay, cy, rfl, _⟩ := row_shape ho5
    have HY := Lib.hid ho5
    have HX5 := Lib.hid (row_past HX.out hb5 (Nat.le_refl _))
    clear ho5 hb5
    go_wp2
    go_loopw [61] (fun i wr => ∃ k : Nat, k ≤ M.length ∧ i = .int .i64 k ∧ Below w5.heap.size w5 wr) (fun i _ => M.length - (intOf i).toNat)
    case atStart => exact ⟨0, Nat.zero_le _, rfl, Below.refl _ _⟩
    case round =>
      obtain ⟨k, hk, rfl, hbr⟩ := hrel
      by_cases hlt : k < M.length
      · obtain ⟨g, rfl, d0, d1, d2, d3⟩ := mrow_cells (row_past HX5.out hbr (Nat.le_refl _)) k hlt rfl
        obtain ⟨g2, rfl, f0, f1, f2, f3⟩ := mrow_cells (row_past HY.out hbr (Nat.le_refl _)) k hlt rfl
        have HBr := Lib.hid hbr
        generalize M[k] = E at *
        have hq := fun W => neMe E.u E.s E.k E.v W
        clear hbr
        go_wp2_with fail
        go_quiet (fail)
        go_wp2
        go_roundw
        case rel => exact ⟨k + 1, by omega, by go_num, below_drewN HBr.out _⟩
        case measure => simp [intOf]; omega
      · have HBr := Lib.hid (bnext HB5.out hbr)
        clear hbr
        go_wp2_with fail; (with_reducible refine (awake11 _).mono ?_); rintro e w6 ⟨rfl, hb6⟩
        go_wp2
        go_ret
        exact ⟨rfl, bnext HBr.out hb6⟩
end Go.Proofs.Ytcbkjhbneigkaaa
