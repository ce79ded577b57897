/- The walk of WireBad. -/
import Derived.Test.YtpdkekpdahefgaaAwake02
import Derived.Test.YtpdkekpdahefgaaRdText
import Derived.Test.YtpdkekpdahefgaaItems
namespace Go.Proofs.Ytpdkekpdahefgaa
open Go.RowKit
set_option linter.unusedVariables false

set_option maxRecDepth 100000 in
set_option maxHeartbeats 4000000 in
theorem wbad_any {w : World} {ab : Option Addr} {cb : Nat} {lb : List UInt8} (hb : RB w (.slice ab lb.length cb) lb) (hm : lb.length ≤ maxLen) {a : Option Addr} {c : Nat} {its : List ItemD} (hI : ITs w a its) (hil : its.length ≤ maxLen) :
    Calls Try.prog 7 #[.slice ab lb.length cb, .slice a its.length c] w fun e w' => e = .returned (.bool true) ∧ Below w.heap.size w w' := by
  have Hil := Lib.hid hil
  unfold maxLen at hm hil
  have Hb := Lib.hid hb
  have HI := Lib.hid hI
  clear hb hI
  by_cases h1 : lb.length ≤ 1000
  · by_cases h2 : smallB its = true
    · have H2 := Lib.hid h2
      clear h2
      go_enter Try.func7, Try.ntmps7
      go_wp2_with fail; (with_reducible refine (small_any HI.out Hil.out).mono ?_); rintro e w1 ⟨rfl, hb1⟩
      rw [H2.out]
      have hr1 := newreader_any (Hb.out.below hb1) (by omega)
      have Hr1 := Lib.hid hr1
      clear hr1
      go_wp2_with fail; (with_reducible refine (Hr1.out).mono ?_); rintro e w2 ⟨p, go, rfl, hp, hgo, hrd, hb2⟩
      have B2 := bnext hb1 hb2
      have hr2 := raw_bad hrd (-1) (.inr (.inl (by decide)))
      have Hr2 := Lib.hid hr2
      clear hr2 hrd
      go_wp2_with fail; (with_reducible refine (Hr2.out).mono ?_); rintro e w3 ⟨rfl, hrd3, hg3⟩
      have hp0 := Nat.le_trans hb1.size hp
      have B3 : Below w.heap.size w w3 := B2.grown hg3 B2.size (fun k hk => by cases hk; exact hp0)
      have Hrd3 := Lib.hid hrd3
      clear hrd3 hg3
      go_wp2
      go_loopw [23] (fun i wr => ∃ k : Nat, k ≤ its.length ∧ i = .int .i64 k ∧ RD wr p go lb true ∧ Below w.heap.size w wr) (fun i _ => its.length - (intOf i).toNat)
      case atStart => exact ⟨0, Nat.zero_le _, rfl, Hrd3.out, B3⟩
      case round =>
        obtain ⟨k, hk, rfl, hrd, hbr⟩ := hrel
        have Hrd := Lib.hid hrd
        clear hrd
        by_cases hlt : k < its.length
        · obtain ⟨b, off, ao, cc, rfl, d0, d1, d2, q4⟩ := ITs.cells HI.out hbr k hlt
          unfold maxLen at q4
          generalize its[k] = x at *
          have hz := hbr.size
          by_cases e1 : x.kind = 1
          · rw [e1] at d0
            clear e1
            go_wp2_with fail; (with_reducible refine (rnumber_bad (Hrd.out.alloc _)).mono ?_); rintro e w4 ⟨rfl, hrd4, hg4⟩
            have hb4 : Below w.heap.size w w4 := (hbr.alloc hz _).grown hg4 (by simp; omega) (fun k hk => by cases hk; exact hp0)
            have Hrd4 := Lib.hid hrd4
            clear hrd4 hg4
            go_wp2_with fail; (with_reducible refine (bad_any Hrd4.out).mono ?_); rintro e w5 ⟨rfl, hw5⟩
            subst hw5
            go_wp2_with fail; (with_reducible refine (done_any Hrd4.out 20 (by simp)).mono ?_); rintro e w6 ⟨rfl, hw6⟩
            subst hw6
            go_wp2_with fail; (with_reducible refine (left_any Hrd4.out).mono ?_); rintro e w7 ⟨rfl, hw7⟩
            subst hw7
            go_wp2
            go_roundw
            case rel => exact ⟨k + 1, by omega, by go_num, Hrd4.out, hb4⟩
            case measure => simp [intOf]; omega
          have n1 : (x.kind == 1) = false := by rw [beq_eq_false_iff_ne]; exact e1
          clear e1
          by_cases e2 : x.kind = 2
          · rw [e2] at d0
            clear e2
            go_wp2_with fail; (with_reducible refine (rtext_bad (Hrd.out.alloc _)).mono ?_); rintro e w4 ⟨rfl, hrd4, hg4⟩
            have hb4 : Below w.heap.size w w4 := (hbr.alloc hz _).grown hg4 (by simp; omega) (fun k hk => by cases hk; exact hp0)
            have Hrd4 := Lib.hid hrd4
            clear hrd4 hg4
            go_wp2_with fail; (with_reducible refine (bad_any Hrd4.out).mono ?_); rintro e w5 ⟨rfl, hw5⟩
            subst hw5
            go_wp2_with fail; (with_reducible refine (done_any Hrd4.out 20 (by simp)).mono ?_); rintro e w6 ⟨rfl, hw6⟩
            subst hw6
            go_wp2_with fail; (with_reducible refine (left_any Hrd4.out).mono ?_); rintro e w7 ⟨rfl, hw7⟩
            subst hw7
            go_wp2
            go_roundw
            case rel => exact ⟨k + 1, by omega, by go_num, Hrd4.out, hb4⟩
            case measure => simp [intOf]; omega
          have n2 : (x.kind == 2) = false := by rw [beq_eq_false_iff_ne]; exact e2
          clear e2
          by_cases e3 : x.kind = 3
          · rw [e3] at d0
            clear e3
            go_wp2_with fail; (with_reducible refine (raw_bad (Hrd.out.alloc _) x.n (.inl rfl)).mono ?_); rintro e w4 ⟨rfl, hrd4, hg4⟩
            have hb4 : Below w.heap.size w w4 := (hbr.alloc hz _).grown hg4 (by simp; omega) (fun k hk => by cases hk; exact hp0)
            have Hrd4 := Lib.hid hrd4
            clear hrd4 hg4
            go_wp2_with fail; (with_reducible refine (bad_any Hrd4.out).mono ?_); rintro e w5 ⟨rfl, hw5⟩
            subst hw5
            go_wp2_with fail; (with_reducible refine (done_any Hrd4.out 20 (by simp)).mono ?_); rintro e w6 ⟨rfl, hw6⟩
            subst hw6
            go_wp2_with fail; (with_reducible refine (left_any Hrd4.out).mono ?_); rintro e w7 ⟨rfl, hw7⟩
            subst hw7
            go_wp2
            go_roundw
            case rel => exact ⟨k + 1, by omega, by go_num, Hrd4.out, hb4⟩
            case measure => simp [intOf]; omega
          have n3 : (x.kind == 3) = false := by rw [beq_eq_false_iff_ne]; exact e3
          clear e3
          by_cases e4 : x.kind = 4
          · rw [e4] at d0
            clear e4
            go_wp2_with fail; (with_reducible refine (byte_bad (Hrd.out.alloc _) (.inl rfl)).mono ?_); rintro e w4 ⟨rfl, hrd4, hg4⟩
            have hb4 : Below w.heap.size w w4 := (hbr.alloc hz _).grown hg4 (by simp; omega) (fun k hk => by cases hk; exact hp0)
            have Hrd4 := Lib.hid hrd4
            clear hrd4 hg4
            go_wp2_with fail; (with_reducible refine (bad_any Hrd4.out).mono ?_); rintro e w5 ⟨rfl, hw5⟩
            subst hw5
            go_wp2_with fail; (with_reducible refine (done_any Hrd4.out 20 (by simp)).mono ?_); rintro e w6 ⟨rfl, hw6⟩
            subst hw6
            go_wp2_with fail; (with_reducible refine (left_any Hrd4.out).mono ?_); rintro e w7 ⟨rfl, hw7⟩
            subst hw7
            go_wp2
            go_roundw
            case rel => exact ⟨k + 1, by omega, by go_num, Hrd4.out, hb4⟩
            case measure => simp [intOf]; omega
          have n4 : (x.kind == 4) = false := by rw [beq_eq_false_iff_ne]; exact e4
          clear e4
          have Hrd4 := Lib.hid (Hrd.out.alloc (.cells #[.int .i64 x.kind, .int .i64 x.n, .slice ao x.b.length cc] 46))
          have hb4 := hbr.alloc hz (.cells #[.int .i64 x.kind, .int .i64 x.n, .slice ao x.b.length cc] 46)
          go_wp2_with fail; (with_reducible refine (bad_any Hrd4.out).mono ?_); rintro e w5 ⟨rfl, hw5⟩
          subst hw5
          go_wp2_with fail; (with_reducible refine (done_any Hrd4.out 20 (by simp)).mono ?_); rintro e w6 ⟨rfl, hw6⟩
          subst hw6
          go_wp2_with fail; (with_reducible refine (left_any Hrd4.out).mono ?_); rintro e w7 ⟨rfl, hw7⟩
          subst hw7
          go_wp2
          go_roundw
          case rel => exact ⟨k + 1, by omega, by go_num, Hrd4.out, hb4⟩
          case measure => simp [intOf]; omega
        · go_wp2_with fail; (with_reducible refine (bad_any Hrd.out).mono ?_); rintro e w5 ⟨rfl, hw5⟩
          subst hw5
          go_wp2_with fail; (with_reducible refine (awake_any _).mono ?_); rintro e wa ⟨rfl, hba⟩
          go_wp2
          go_ret
          exact ⟨rfl, bnext hbr hba⟩
    · have h2 : smallB its = false := by simpa using h2
      have H2 := Lib.hid h2
      clear h2
      go_enter Try.func7, Try.ntmps7
      go_wp2_with fail; (with_reducible refine (small_any HI.out Hil.out).mono ?_); rintro e w1 ⟨rfl, hb1⟩
      rw [H2.out]
      go_wp2_with fail; (with_reducible refine (awake_any _).mono ?_); rintro e wa ⟨rfl, hba⟩
      go_wp2
      go_ret
      exact ⟨rfl, bnext hb1 hba⟩
  · go_enter Try.func7, Try.ntmps7
    go_wp2_with fail; (with_reducible refine (awake_any _).mono ?_); rintro e wa ⟨rfl, hba⟩
    go_wp2
    go_ret
    exact ⟨rfl, hba⟩
end Go.Proofs.Ytpdkekpdahefgaa
