/- The walk of WireReads. -/
import Derived.Test.YtpdkekpdahefgaaAwake02
import Derived.Test.YtpdkekpdahefgaaRdText
import Derived.Test.YtpdkekpdahefgaaRef2
import Derived.Test.YtpdkekpdahefgaaItems
import Derived.Test.YtpdkekpdahefgaaLess
namespace Go.Proofs.Ytpdkekpdahefgaa
open Go.RowKit
set_option linter.unusedVariables false

theorem rdNum_drop {l r : List UInt8} {at0 n : Nat} (h : rdNum 9 true (l.drop at0) = some (n, r)) : ∃ e : Nat, at0 ≤ e ∧ e ≤ l.length ∧ r = l.drop e ∧ n < 9223372036854775808 := by
  obtain ⟨h1, h2, _⟩ := rdNum_is _ _ _ _ _ h
  have h3 := congrArg List.length h1
  simp only [List.length_append, List.length_drop] at h3
  have hp := num_pos n
  refine ⟨at0 + (num n).length, by omega, by omega, ?_, by omega⟩
  rw [← List.drop_drop, h1]
  simp
def ReadYes (w : World) (n e : Nat) (en : Ending) (w' : World) : Prop := w = w' ∧ en = .returned (.tuple #[.int .i64 n, .int .i64 (e : Int)])
def ReadNo (w : World) (en : Ending) (w' : World) : Prop := w = w' ∧ en = .returned (.tuple #[.int .i64 0, .int .i64 (-1)])
theorem refread_yes {w : World} {ao : Option Addr} {c : Nat} {l : List UInt8} (hr : RB w (.slice ao l.length c) l) (hlen : l.length ≤ 140737488355328) (at0 : Nat) (hat : at0 ≤ l.length) {n e : Nat} (h : rdNum 9 true (l.drop at0) = some (n, l.drop e)) (he : e ≤ l.length) :
    Calls Try.prog 24 #[.slice ao l.length c, .int .i64 at0] w (ReadYes w n e) := by
  refine (refread hr hlen at0 hat).mono ?_
  rw [h]
  rintro en w' ⟨rfl, rfl⟩
  refine ⟨rfl, ?_⟩
  rw [List.length_drop, show ((l.length : Int) - (l.length - e : Nat)) = e by omega]
theorem refread_no {w : World} {ao : Option Addr} {c : Nat} {l : List UInt8} (hr : RB w (.slice ao l.length c) l) (hlen : l.length ≤ 140737488355328) (at0 : Nat) (hat : at0 ≤ l.length) (h : rdNum 9 true (l.drop at0) = none) :
    Calls Try.prog 24 #[.slice ao l.length c, .int .i64 at0] w (ReadNo w) := by
  refine (refread hr hlen at0 hat).mono ?_
  rw [h]
  rintro en w' ⟨rfl, rfl⟩
  exact ⟨rfl, rfl⟩
theorem left_drop {w : World} {p : Nat} {go : Option Nat} {l : List UInt8} {e : Nat} {bad : Bool} (h : RD w p go (l.drop e) bad) (he : e ≤ l.length) :
    Calls Try.prog 21 #[.pointer (some ⟨p, 0, none⟩)] w fun en w' => en = .returned (.int .i64 ((l.length : Int) - e)) ∧ w = w' := by
  refine (left_any h).mono ?_
  rintro en w' ⟨rfl, rfl⟩
  refine ⟨?_, rfl⟩
  rw [List.length_drop, show (((l.length - e : Nat)) : Int) = l.length - e by omega]
theorem rb_cut {w : World} {b off c : Nat} {l : List UInt8} (h : RB w (.slice (some ⟨b, off, none⟩) l.length c) l) (i n c' : Nat) (hi : i + n ≤ l.length) (hc : n ≤ c') : RB w (.slice (some ⟨b, off + i, none⟩) n c') ((l.drop i).take n) := by
  have hd := rb_drop h (n := i) (by omega) (Nat.le_refl _)
  have hl : (l.drop i).length = l.length - i := List.length_drop
  have hd2 : RB w (.slice (some ⟨b, off + i, none⟩) (l.drop i).length (l.length - i)) (l.drop i) := by rw [hl]; exact hd
  exact rb_take hd2 (by rw [hl]; omega) hc

set_option maxRecDepth 100000 in
set_option maxHeartbeats 8000000 in
theorem wreads_any {w : World} {ab : Option Addr} {cb : Nat} {lb : List UInt8} (hb : RB w (.slice ab lb.length cb) lb) (hm : lb.length ≤ maxLen) {a : Option Addr} {c : Nat} {its : List ItemD} (hI : ITs w a its) (hil : its.length ≤ maxLen) :
    Calls Try.prog 5 #[.slice ab lb.length cb, .slice a its.length c] w fun e w' => e = .returned (.bool true) ∧ Below w.heap.size w w' := by
  have Hil := Lib.hid hil
  unfold maxLen at hm hil
  have hcap := hb.capl
  have Hb := Lib.hid hb
  have HI := Lib.hid hI
  clear hb hI
  by_cases h1 : lb.length ≤ 2000
  · by_cases h2 : smallB its = true
    · have H2 := Lib.hid h2
      clear h2
      go_enter Try.func5, Try.ntmps5
      go_wp2_with fail; (with_reducible refine (small_any HI.out Hil.out).mono ?_); rintro e w1 ⟨rfl, hb1⟩
      rw [H2.out]
      have hr1 := newreader_any (Hb.out.below hb1) (by omega)
      have Hr1 := Lib.hid hr1
      clear hr1
      go_wp2_with fail; (with_reducible refine (Hr1.out).mono ?_); rintro e w2 ⟨p, go, rfl, hp, hgo, hrd, hb2⟩
      have B2 := bnext hb1 hb2
      have Hrd2 := Lib.hid hrd
      clear hrd
      have hp0 := Nat.le_trans hb1.size hp
      go_wp2
      go_loopw [6, 7, 28] (fun pos bd i wr => ∃ (k at0 : Nat) (bad : Bool) (lr : List UInt8), k ≤ its.length ∧ at0 ≤ lb.length ∧ i = .int .i64 k ∧ pos = .int .i64 at0 ∧ bd = .bool bad ∧ RD wr p go lr bad ∧ (bad = false → lr = lb.drop at0) ∧ Below w.heap.size w wr) (fun _ _ i _ => its.length - (intOf i).toNat)
      case atStart => exact ⟨0, 0, false, lb, Nat.zero_le _, Nat.zero_le _, rfl, rfl, rfl, Hrd2.out, fun _ => rfl, B2⟩
      case round =>
        obtain ⟨k, at0, bad, lr, hk, hat, rfl, rfl, rfl, hrd, hlr, hbr⟩ := hrel
        have Hrd := Lib.hid hrd
        have Hlr := Lib.hid hlr
        clear hrd hlr
        by_cases hlt : k < its.length
        · obtain ⟨b, off, ao, cc, rfl, d0, d1, d2, q4⟩ := ITs.cells HI.out hbr k hlt
          obtain ⟨_, x0, x1, x2, x3, _⟩ := HI.out.2 _ (List.getElem_mem hlt)
          unfold maxLen at q4
          generalize its[k] = x at *
          have hz := hbr.size
          have hb3 := hbr.alloc hz (.cells #[.int .i64 x.kind, .int .i64 x.n, .slice ao x.b.length cc] 46)
          have Hrd3 := Lib.hid (Hrd.out.alloc (.cells #[.int .i64 x.kind, .int .i64 x.n, .slice ao x.b.length cc] 46))
          have Hb3 := Lib.hid (Hb.out.below hb3)
          have hz3 := hb3.size
          by_cases e1 : x.kind = 1
          · as_aux_lemma =>
              rw [e1] at d0 hb3 Hrd3 Hb3 hz3
              clear e1
              cases hrn : rdNum 9 true (lb.drop at0) with
              | none =>
                have Hrn := Lib.hid hrn
                clear hrn
                go_wp2_with fail; (with_reducible refine (refread_no Hb3.out (by omega) at0 hat Hrn.out).mono ?_); rintro e w4 ⟨hw4, rfl⟩
                subst hw4
                cases bad with
                | true =>
                  go_wp2_with fail; (with_reducible refine (rnumber_bad Hrd3.out).mono ?_); rintro e w5 ⟨rfl, hrd5, hg5⟩
                  have B5 := hb3.grown hg5 hz3 (fun q hq => by cases hq; exact hp0)
                  have Hrd5 := Lib.hid hrd5
                  clear hrd5 hg5
                  go_wp2_with fail; (with_reducible refine (bad_any Hrd5.out).mono ?_); rintro e w7 ⟨rfl, hw7⟩
                  subst hw7
                  go_wp2
                  go_roundw
                  case rel => exact ⟨k + 1, at0, true, _, by omega, hat, by go_num, rfl, rfl, Hrd5.out, (fun h => by cases h), B5⟩
                  case measure => simp [intOf]; omega
                | false =>
                  have hN := rnumber Hrd3.out
                  rw [Hlr.out rfl, Hrn.out] at hN
                  have HN := Lib.hid hN
                  clear hN
                  go_wp2_with fail; (with_reducible refine (HN.out).mono ?_); rintro e w5 ⟨hg5, rfl, l5, hrd5⟩
                  have B5 := hb3.grown hg5 hz3 (fun q hq => by cases hq; exact hp0)
                  have Hrd5 := Lib.hid hrd5
                  clear hrd5 hg5
                  go_wp2_with fail; (with_reducible refine (bad_any Hrd5.out).mono ?_); rintro e w7 ⟨rfl, hw7⟩
                  subst hw7
                  go_wp2
                  go_roundw
                  case rel => exact ⟨k + 1, at0, true, _, by omega, hat, by go_num, rfl, rfl, Hrd5.out, (fun h => by cases h), B5⟩
                  case measure => simp [intOf]; omega
              | some nr =>
                obtain ⟨n, r⟩ := nr
                obtain ⟨e, he0, he1, rfl, hn63⟩ := rdNum_drop hrn
                have Hrn := Lib.hid hrn
                clear hrn
                go_wp2_with fail; (with_reducible refine (refread_yes Hb3.out (by omega) at0 hat Hrn.out he1).mono ?_); rintro en w4 ⟨hw4, rfl⟩
                subst hw4
                cases bad with
                | true =>
                  go_wp2_with fail; (with_reducible refine (rnumber_bad Hrd3.out).mono ?_); rintro en w5 ⟨rfl, hrd5, hg5⟩
                  have B5 := hb3.grown hg5 hz3 (fun q hq => by cases hq; exact hp0)
                  have Hrd5 := Lib.hid hrd5
                  clear hrd5 hg5
                  go_wp2_with fail; (with_reducible refine (bad_any Hrd5.out).mono ?_); rintro e w7 ⟨rfl, hw7⟩
                  subst hw7
                  go_wp2
                  go_roundw
                  case rel => exact ⟨k + 1, at0, true, _, by omega, hat, by go_num, rfl, rfl, Hrd5.out, (fun h => by cases h), B5⟩
                  case measure => simp [intOf]; omega
                | false =>
                  have hN := rnumber Hrd3.out
                  rw [Hlr.out rfl, Hrn.out] at hN
                  have HN := Lib.hid hN
                  clear hN
                  go_wp2_with fail; (with_reducible refine (HN.out).mono ?_); rintro en w5 ⟨hg5, rfl, hrd5⟩
                  have B5 := hb3.grown hg5 hz3 (fun q hq => by cases hq; exact hp0)
                  have Hrd5 := Lib.hid hrd5
                  clear hrd5 hg5
                  go_wp2_with fail; (with_reducible refine (bad_any Hrd5.out).mono ?_); rintro e w7 ⟨rfl, hw7⟩
                  subst hw7
                  have hlf := left_drop Hrd5.out (by omega)
                  have Hlf := Lib.hid hlf
                  clear hlf
                  go_wp2_with fail; (with_reducible refine (Hlf.out).mono ?_); rintro e w8 ⟨rfl, hw8⟩
                  subst hw8
                  go_wp2
                  go_roundw
                  case rel => exact ⟨k + 1, e, false, lb.drop (e), by omega, by omega, by go_num, by go_num, rfl, Hrd5.out, fun _ => rfl, B5⟩
                  case measure => simp [intOf]; omega
          have n1 : (x.kind == 1) = false := by rw [beq_eq_false_iff_ne]; exact e1
          clear e1
          by_cases e2 : x.kind = 2
          · as_aux_lemma =>
              rw [e2] at d0 hb3 Hrd3 Hb3 hz3
              clear e2
              cases hrn : rdNum 9 true (lb.drop at0) with
              | none =>
                have Hrn := Lib.hid hrn
                clear hrn
                go_wp2_with fail; (with_reducible refine (refread_no Hb3.out (by omega) at0 hat Hrn.out).mono ?_); rintro e w4 ⟨hw4, rfl⟩
                subst hw4
                cases bad with
                | true =>
                  go_wp2_with fail; (with_reducible refine (rtext_bad Hrd3.out).mono ?_); rintro e w5 ⟨rfl, hrd5, hg5⟩
                  have B5 := hb3.grown hg5 hz3 (fun q hq => by cases hq; exact hp0)
                  have Hrd5 := Lib.hid hrd5
                  clear hrd5 hg5
                  go_wp2_with fail; (with_reducible refine (same_b (RB.nil _ _ _) (RB.nil _ _ _) true rfl).mono ?_); rintro en w6 ⟨rfl, hb6⟩
                  have B6 := bnext B5 hb6
                  have Hrd6 := Lib.hid (Hrd5.out.below hb6)
                  go_wp2_with fail; (with_reducible refine (bad_any Hrd6.out).mono ?_); rintro e w7 ⟨rfl, hw7⟩
                  subst hw7
                  go_wp2
                  go_roundw
                  case rel => exact ⟨k + 1, at0, true, _, by omega, hat, by go_num, rfl, rfl, Hrd6.out, (fun h => by cases h), B6⟩
                  case measure => simp [intOf]; omega
                | false =>
                  have Htn : Hid (rdText lr = none) := Lib.hid (by rw [Hlr.out rfl]; unfold rdText; rw [Hrn.out])
                  go_wp2_with fail; (with_reducible refine (rtext_no Hrd3.out Htn.out).mono ?_); rintro e w5 ⟨rfl, ⟨l5, hrd5⟩, hg5⟩
                  have B5 := hb3.grown hg5 hz3 (fun q hq => by cases hq; exact hp0)
                  have Hrd5 := Lib.hid hrd5
                  clear hrd5 hg5
                  go_wp2_with fail; (with_reducible refine (same_b (RB.nil _ _ _) (RB.nil _ _ _) true rfl).mono ?_); rintro en w6 ⟨rfl, hb6⟩
                  have B6 := bnext B5 hb6
                  have Hrd6 := Lib.hid (Hrd5.out.below hb6)
                  go_wp2_with fail; (with_reducible refine (bad_any Hrd6.out).mono ?_); rintro e w7 ⟨rfl, hw7⟩
                  subst hw7
                  go_wp2
                  go_roundw
                  case rel => exact ⟨k + 1, at0, true, _, by omega, hat, by go_num, rfl, rfl, Hrd6.out, (fun h => by cases h), B6⟩
                  case measure => simp [intOf]; omega
              | some nr =>
                obtain ⟨n, r⟩ := nr
                obtain ⟨e, he0, he1, rfl, hn63⟩ := rdNum_drop hrn
                have Hrn := Lib.hid hrn
                clear hrn
                by_cases hne : lb.length - e < n
                ·
                  go_wp2_with fail; (with_reducible refine (refread_yes Hb3.out (by omega) at0 hat Hrn.out he1).mono ?_); rintro en w4 ⟨hw4, rfl⟩
                  subst hw4
                  cases bad with
                  | true =>
                    go_wp2_with fail; (with_reducible refine (rtext_bad Hrd3.out).mono ?_); rintro e w5 ⟨rfl, hrd5, hg5⟩
                    have B5 := hb3.grown hg5 hz3 (fun q hq => by cases hq; exact hp0)
                    have Hrd5 := Lib.hid hrd5
                    clear hrd5 hg5
                    go_wp2_with fail; (with_reducible refine (same_b (RB.nil _ _ _) (RB.nil _ _ _) true rfl).mono ?_); rintro en w6 ⟨rfl, hb6⟩
                    have B6 := bnext B5 hb6
                    have Hrd6 := Lib.hid (Hrd5.out.below hb6)
                    go_wp2_with fail; (with_reducible refine (bad_any Hrd6.out).mono ?_); rintro e w7 ⟨rfl, hw7⟩
                    subst hw7
                    go_wp2
                    go_roundw
                    case rel => exact ⟨k + 1, at0, true, _, by omega, hat, by go_num, rfl, rfl, Hrd6.out, (fun h => by cases h), B6⟩
                    case measure => simp [intOf]; omega
                  | false =>
                    have Htn : Hid (rdText lr = none) := Lib.hid (by rw [Hlr.out rfl]; unfold rdText; rw [Hrn.out]; exact if_neg (by rw [List.length_drop]; omega))
                    go_wp2_with fail; (with_reducible refine (rtext_no Hrd3.out Htn.out).mono ?_); rintro e w5 ⟨rfl, ⟨l5, hrd5⟩, hg5⟩
                    have B5 := hb3.grown hg5 hz3 (fun q hq => by cases hq; exact hp0)
                    have Hrd5 := Lib.hid hrd5
                    clear hrd5 hg5
                    go_wp2_with fail; (with_reducible refine (same_b (RB.nil _ _ _) (RB.nil _ _ _) true rfl).mono ?_); rintro en w6 ⟨rfl, hb6⟩
                    have B6 := bnext B5 hb6
                    have Hrd6 := Lib.hid (Hrd5.out.below hb6)
                    go_wp2_with fail; (with_reducible refine (bad_any Hrd6.out).mono ?_); rintro e w7 ⟨rfl, hw7⟩
                    subst hw7
                    go_wp2
                    go_roundw
                    case rel => exact ⟨k + 1, at0, true, _, by omega, hat, by go_num, rfl, rfl, Hrd6.out, (fun h => by cases h), B6⟩
                    case measure => simp [intOf]; omega
                · go_wp2_with fail; (with_reducible refine (refread_yes Hb3.out (by omega) at0 hat Hrn.out he1).mono ?_); rintro en w4 ⟨hw4, rfl⟩
                  subst hw4
                  cases bad with
                  | true =>
                    go_wp2_with fail; (with_reducible refine (rtext_bad Hrd3.out).mono ?_); rintro e w5 ⟨rfl, hrd5, hg5⟩
                    have B5 := hb3.grown hg5 hz3 (fun q hq => by cases hq; exact hp0)
                    have Hrd5 := Lib.hid hrd5
                    clear hrd5 hg5
                    go_wp2_with fail; (with_reducible refine (same_b (RB.nil _ _ _) (RB.nil _ _ _) true rfl).mono ?_); rintro en w6 ⟨rfl, hb6⟩
                    have B6 := bnext B5 hb6
                    have Hrd6 := Lib.hid (Hrd5.out.below hb6)
                    go_wp2_with fail; (with_reducible refine (bad_any Hrd6.out).mono ?_); rintro e w7 ⟨rfl, hw7⟩
                    subst hw7
                    go_wp2
                    go_roundw
                    case rel => exact ⟨k + 1, at0, true, _, by omega, hat, by go_num, rfl, rfl, Hrd6.out, (fun h => by cases h), B6⟩
                    case measure => simp [intOf]; omega
                  | false =>
                    have Htn : Hid (rdText lr = some ((lb.drop e).take n, lb.drop (e + n))) := Lib.hid (by rw [Hlr.out rfl]; unfold rdText; rw [Hrn.out, ← List.drop_drop]; exact if_pos (by rw [List.length_drop]; omega))
                    by_cases hn0 : n = 0
                    · subst hn0
                      clear hn63 hne
                      rcases Nat.lt_or_ge e cb with hec | hec
                      · have Htn0 : Hid (rdText lr = some ([], lb.drop (e + 0))) := Htn
                        go_wp2_with fail; (with_reducible refine (rtext_ok Hrd3.out Htn0.out).mono ?_); rintro en ws ⟨a5, c5, rfl, hrb5, hrd5, hg5, _⟩
                        have B5 := hb3.grown hg5 hz3 (fun q hq => by cases hq; exact hp0)
                        have Hrd5 := Lib.hid hrd5
                        have Hrb5 : Hid (RB ws (.slice a5 0 c5) []) := Lib.hid hrb5
                        clear hrd5 hg5 hrb5
                        go_wp2_with fail; (with_reducible refine (same_b Hrb5.out (RB.nil _ _ _) true rfl).mono ?_); rintro en w6 ⟨rfl, hb6⟩
                        have B6 := bnext B5 hb6
                        have Hrd6 := Lib.hid (Hrd5.out.below hb6)
                        go_wp2_with fail; (with_reducible refine (bad_any Hrd6.out).mono ?_); rintro e w7 ⟨rfl, hw7⟩
                        subst hw7
                        have hlf := left_drop Hrd6.out (by omega)
                        have Hlf := Lib.hid hlf
                        clear hlf
                        go_wp2_with fail; (with_reducible refine (Hlf.out).mono ?_); rintro e w8 ⟨rfl, hw8⟩
                        subst hw8
                        go_wp2
                        go_roundw
                        case rel => exact ⟨k + 1, e + 0, false, lb.drop (e + 0), by omega, by omega, by go_num, by go_num, rfl, Hrd6.out, fun _ => rfl, B6⟩
                        case measure => simp [intOf]; omega
                      · obtain rfl : e = cb := by omega
                        have Htn0 : Hid (rdText lr = some ([], lb.drop (e + 0))) := Htn
                        clear hec
                        go_wp2_with fail; (with_reducible refine (rtext_ok Hrd3.out Htn0.out).mono ?_); rintro en ws ⟨a5, c5, rfl, hrb5, hrd5, hg5, _⟩
                        have B5 := hb3.grown hg5 hz3 (fun q hq => by cases hq; exact hp0)
                        have Hrd5 := Lib.hid hrd5
                        have Hrb5 : Hid (RB ws (.slice a5 0 c5) []) := Lib.hid hrb5
                        clear hrd5 hg5 hrb5
                        go_wp2_with fail; (with_reducible refine (same_b Hrb5.out (RB.nil _ _ _) true rfl).mono ?_); rintro en w6 ⟨rfl, hb6⟩
                        have B6 := bnext B5 hb6
                        have Hrd6 := Lib.hid (Hrd5.out.below hb6)
                        go_wp2_with fail; (with_reducible refine (bad_any Hrd6.out).mono ?_); rintro e w7 ⟨rfl, hw7⟩
                        subst hw7
                        have hlf := left_drop Hrd6.out (by omega)
                        have Hlf := Lib.hid hlf
                        clear hlf
                        go_wp2_with fail; (with_reducible refine (Hlf.out).mono ?_); rintro e w8 ⟨rfl, hw8⟩
                        subst hw8
                        go_wp2
                        go_roundw
                        case rel => exact ⟨k + 1, e + 0, false, lb.drop (e + 0), by omega, by omega, by go_num, by go_num, rfl, Hrd6.out, fun _ => rfl, B6⟩
                        case measure => simp [intOf]; omega
                    · have hlb : 0 < lb.length := by omega
                      obtain ⟨bb, bo, rfl⟩ := Hb.out.addr hlb
                      have hec : e < cb := by omega
                      have hq0 := fun (w' : World) (hB : Below w.heap.size w w') => rb_cut (Hb.out.below hB) e n (cb - e) (by omega) (by omega)
                      have htn := Htn.out
                      generalize (lb.drop e).take n = T at htn hq0
                      have Hq0 := Lib.hid hq0
                      have Htn2 := Lib.hid htn
                      clear hq0 htn
                      go_wp2_with fail; (with_reducible refine (rtext_ok Hrd3.out Htn2.out).mono ?_); rintro en ws ⟨a5, c5, rfl, hrb5, hrd5, hg5, _⟩
                      have B5 := hb3.grown hg5 hz3 (fun q hq => by cases hq; exact hp0)
                      have Hrd5 := Lib.hid hrd5
                      have Hrb5 := Lib.hid hrb5
                      clear hrd5 hg5 hrb5
                      go_wp2_with fail; (with_reducible refine (same_b Hrb5.out (Hq0.out _ B5) true (by rw [beq_iff_eq])).mono ?_); rintro en w6 ⟨rfl, hb6⟩
                      have B6 := bnext B5 hb6
                      have Hrd6 := Lib.hid (Hrd5.out.below hb6)
                      go_wp2_with fail; (with_reducible refine (bad_any Hrd6.out).mono ?_); rintro e w7 ⟨rfl, hw7⟩
                      subst hw7
                      have hlf := left_drop Hrd6.out (by omega)
                      have Hlf := Lib.hid hlf
                      clear hlf
                      go_wp2_with fail; (with_reducible refine (Hlf.out).mono ?_); rintro e w8 ⟨rfl, hw8⟩
                      subst hw8
                      go_wp2
                      go_roundw
                      case rel => exact ⟨k + 1, e + n, false, lb.drop (e + n), by omega, by omega, by go_num, by go_num, rfl, Hrd6.out, fun _ => rfl, B6⟩
                      case measure => simp [intOf]; omega
          have n2 : (x.kind == 2) = false := by rw [beq_eq_false_iff_ne]; exact e2
          clear e2
          by_cases e3 : x.kind = 3
          · as_aux_lemma =>
              rw [e3] at d0 hb3 Hrd3 Hb3 hz3
              clear e3
              by_cases hN : 0 ≤ x.n ∧ x.n ≤ lb.length - at0
              · obtain ⟨hN0, hN1⟩ := hN
                obtain ⟨n, hn⟩ := Int.eq_ofNat_of_zero_le hN0
                rw [hn] at d1 hb3 Hrd3 Hb3 hz3 hN1
                clear hn hN0
                cases bad with
                | true =>
                  go_wp2_with fail; (with_reducible refine (raw_bad Hrd3.out n (.inl rfl)).mono ?_); rintro en w5 ⟨rfl, hrd5, hg5⟩
                  have B5 := hb3.grown hg5 hz3 (fun q hq => by cases hq; exact hp0)
                  have Hrd5 := Lib.hid hrd5
                  clear hrd5 hg5
                  go_wp2_with fail; (with_reducible refine (same_b (RB.nil _ _ _) (RB.nil _ _ _) true rfl).mono ?_); rintro en w6 ⟨rfl, hb6⟩
                  have B6 := bnext B5 hb6
                  have Hrd6 := Lib.hid (Hrd5.out.below hb6)
                  go_wp2_with fail; (with_reducible refine (bad_any Hrd6.out).mono ?_); rintro e w7 ⟨rfl, hw7⟩
                  subst hw7
                  go_wp2
                  go_roundw
                  case rel => exact ⟨k + 1, at0, true, _, by omega, hat, by go_num, rfl, rfl, Hrd6.out, (fun h => by cases h), B6⟩
                  case measure => simp [intOf]; omega
                | false =>
                  have hlr := Hlr.out rfl
                  subst hlr
                  have hrk := raw_ok Hrd3.out n (by rw [List.length_drop]; omega)
                  have Hrk := Lib.hid hrk
                  clear hrk
                  by_cases hn0 : n = 0
                  · subst hn0
                    rw [show ((0 : Nat) : Int) = 0 from rfl] at d1 hb3 Hrd3 Hb3 hz3 Hrk
                    have Hrk0 := Hrk
                    clear Hrk hN1
                    rcases Nat.lt_or_ge at0 cb with hec | hec
                    · skip
                      go_wp2_with fail; (with_reducible refine (Hrk0.out).mono ?_); rintro en ws ⟨v5, rfl, hrb5, hrd5, hg5, ho5, ⟨a5, c5, rfl, hm5⟩⟩
                      have B5 := hb3.grown hg5 hz3 (fun q hq => by cases hq; exact hp0)
                      rw [List.drop_drop] at hrd5
                      have Hrd5 := Lib.hid hrd5
                      have Hrb5 : Hid (RB ws (.slice a5 0 c5) []) := Lib.hid hrb5
                      clear hrd5 hg5 hrb5 ho5
                      go_wp2_with fail; (with_reducible refine (same_b Hrb5.out (RB.nil _ _ _) true rfl).mono ?_); rintro en w6 ⟨rfl, hb6⟩
                      have B6 := bnext B5 hb6
                      have Hrd6 := Lib.hid (Hrd5.out.below hb6)
                      go_wp2_with fail; (with_reducible refine (bad_any Hrd6.out).mono ?_); rintro e w7 ⟨rfl, hw7⟩
                      subst hw7
                      have hlf := left_drop Hrd6.out (by omega)
                      have Hlf := Lib.hid hlf
                      clear hlf
                      go_wp2_with fail; (with_reducible refine (Hlf.out).mono ?_); rintro e w8 ⟨rfl, hw8⟩
                      subst hw8
                      go_wp2
                      go_roundw
                      case rel => exact ⟨k + 1, at0 + 0, false, lb.drop (at0 + 0), by omega, by omega, by go_num, by go_num, rfl, Hrd6.out, fun _ => rfl, B6⟩
                      case measure => simp [intOf]; omega
                    · obtain rfl : at0 = cb := by omega
                      clear hec
                      go_wp2_with fail; (with_reducible refine (Hrk0.out).mono ?_); rintro en ws ⟨v5, rfl, hrb5, hrd5, hg5, ho5, ⟨a5, c5, rfl, hm5⟩⟩
                      have B5 := hb3.grown hg5 hz3 (fun q hq => by cases hq; exact hp0)
                      rw [List.drop_drop] at hrd5
                      have Hrd5 := Lib.hid hrd5
                      have Hrb5 : Hid (RB ws (.slice a5 0 c5) []) := Lib.hid hrb5
                      clear hrd5 hg5 hrb5 ho5
                      go_wp2_with fail; (with_reducible refine (same_b Hrb5.out (RB.nil _ _ _) true rfl).mono ?_); rintro en w6 ⟨rfl, hb6⟩
                      have B6 := bnext B5 hb6
                      have Hrd6 := Lib.hid (Hrd5.out.below hb6)
                      go_wp2_with fail; (with_reducible refine (bad_any Hrd6.out).mono ?_); rintro e w7 ⟨rfl, hw7⟩
                      subst hw7
                      have hlf := left_drop Hrd6.out (by omega)
                      have Hlf := Lib.hid hlf
                      clear hlf
                      go_wp2_with fail; (with_reducible refine (Hlf.out).mono ?_); rintro e w8 ⟨rfl, hw8⟩
                      subst hw8
                      go_wp2
                      go_roundw
                      case rel => exact ⟨k + 1, at0 + 0, false, lb.drop (at0 + 0), by omega, by omega, by go_num, by go_num, rfl, Hrd6.out, fun _ => rfl, B6⟩
                      case measure => simp [intOf]; omega
                  · have hlb : 0 < lb.length := by omega
                    obtain ⟨bb, bo, rfl⟩ := Hb.out.addr hlb
                    have hec : at0 < cb := by omega
                    go_wp2_with fail; (with_reducible refine (Hrk.out).mono ?_); rintro en ws ⟨v5, rfl, hrb5, hrd5, hg5, ho5, ⟨a5, c5, rfl, hm5⟩⟩
                    have B5 := hb3.grown hg5 hz3 (fun q hq => by cases hq; exact hp0)
                    have Hq := Lib.hid (rb_cut (Hb.out.below B5) at0 n (cb - at0) (by omega) (by omega))
                    rw [List.drop_drop] at hrd5
                    have Hrd5 := Lib.hid hrd5
                    have Hrb5 := Lib.hid hrb5
                    clear hrd5 hg5 hrb5 ho5
                    go_wp2_with fail; (with_reducible refine (same_b Hrb5.out Hq.out true (by rw [beq_iff_eq])).mono ?_); rintro en w6 ⟨rfl, hb6⟩
                    have B6 := bnext B5 hb6
                    have Hrd6 := Lib.hid (Hrd5.out.below hb6)
                    go_wp2_with fail; (with_reducible refine (bad_any Hrd6.out).mono ?_); rintro e w7 ⟨rfl, hw7⟩
                    subst hw7
                    have hlf := left_drop Hrd6.out (by omega)
                    have Hlf := Lib.hid hlf
                    clear hlf
                    go_wp2_with fail; (with_reducible refine (Hlf.out).mono ?_); rintro e w8 ⟨rfl, hw8⟩
                    subst hw8
                    go_wp2
                    go_roundw
                    case rel => exact ⟨k + 1, at0 + n, false, lb.drop (at0 + n), by omega, by omega, by go_num, by go_num, rfl, Hrd6.out, fun _ => rfl, B6⟩
                    case measure => simp [intOf]; omega
              · have hN2 : x.n < 0 ∨ (lb.length : Int) - at0 < x.n := by omega
                clear hN
                rcases hN2 with hN2 | hN2
                · cases bad with
                  | true =>
                    go_wp2_with fail; (with_reducible refine (raw_bad Hrd3.out x.n (.inl rfl)).mono ?_); rintro en w5 ⟨rfl, hrd5, hg5⟩
                    have B5 := hb3.grown hg5 hz3 (fun q hq => by cases hq; exact hp0)
                    have Hrd5 := Lib.hid hrd5
                    clear hrd5 hg5
                    go_wp2_with fail; (with_reducible refine (same_b (RB.nil _ _ _) (RB.nil _ _ _) true rfl).mono ?_); rintro en w6 ⟨rfl, hb6⟩
                    have B6 := bnext B5 hb6
                    have Hrd6 := Lib.hid (Hrd5.out.below hb6)
                    go_wp2_with fail; (with_reducible refine (bad_any Hrd6.out).mono ?_); rintro e w7 ⟨rfl, hw7⟩
                    subst hw7
                    go_wp2
                    go_roundw
                    case rel => exact ⟨k + 1, at0, true, _, by omega, hat, by go_num, rfl, rfl, Hrd6.out, (fun h => by cases h), B6⟩
                    case measure => simp [intOf]; omega
                  | false =>
                    have hlr := Hlr.out rfl
                    subst hlr
                    go_wp2_with fail; (with_reducible refine (raw_bad Hrd3.out x.n (by rw [List.length_drop]; omega)).mono ?_); rintro en w5 ⟨rfl, hrd5, hg5⟩
                    have B5 := hb3.grown hg5 hz3 (fun q hq => by cases hq; exact hp0)
                    have Hrd5 := Lib.hid hrd5
                    clear hrd5 hg5
                    go_wp2_with fail; (with_reducible refine (same_b (RB.nil _ _ _) (RB.nil _ _ _) true rfl).mono ?_); rintro en w6 ⟨rfl, hb6⟩
                    have B6 := bnext B5 hb6
                    have Hrd6 := Lib.hid (Hrd5.out.below hb6)
                    go_wp2_with fail; (with_reducible refine (bad_any Hrd6.out).mono ?_); rintro e w7 ⟨rfl, hw7⟩
                    subst hw7
                    go_wp2
                    go_roundw
                    case rel => exact ⟨k + 1, at0, true, _, by omega, hat, by go_num, rfl, rfl, Hrd6.out, (fun h => by cases h), B6⟩
                    case measure => simp [intOf]; omega
                · cases bad with
                  | true =>
                    go_wp2_with fail; (with_reducible refine (raw_bad Hrd3.out x.n (.inl rfl)).mono ?_); rintro en w5 ⟨rfl, hrd5, hg5⟩
                    have B5 := hb3.grown hg5 hz3 (fun q hq => by cases hq; exact hp0)
                    have Hrd5 := Lib.hid hrd5
                    clear hrd5 hg5
                    go_wp2_with fail; (with_reducible refine (same_b (RB.nil _ _ _) (RB.nil _ _ _) true rfl).mono ?_); rintro en w6 ⟨rfl, hb6⟩
                    have B6 := bnext B5 hb6
                    have Hrd6 := Lib.hid (Hrd5.out.below hb6)
                    go_wp2_with fail; (with_reducible refine (bad_any Hrd6.out).mono ?_); rintro e w7 ⟨rfl, hw7⟩
                    subst hw7
                    go_wp2
                    go_roundw
                    case rel => exact ⟨k + 1, at0, true, _, by omega, hat, by go_num, rfl, rfl, Hrd6.out, (fun h => by cases h), B6⟩
                    case measure => simp [intOf]; omega
                  | false =>
                    have hlr := Hlr.out rfl
                    subst hlr
                    go_wp2_with fail; (with_reducible refine (raw_bad Hrd3.out x.n (by rw [List.length_drop]; omega)).mono ?_); rintro en w5 ⟨rfl, hrd5, hg5⟩
                    have B5 := hb3.grown hg5 hz3 (fun q hq => by cases hq; exact hp0)
                    have Hrd5 := Lib.hid hrd5
                    clear hrd5 hg5
                    go_wp2_with fail; (with_reducible refine (same_b (RB.nil _ _ _) (RB.nil _ _ _) true rfl).mono ?_); rintro en w6 ⟨rfl, hb6⟩
                    have B6 := bnext B5 hb6
                    have Hrd6 := Lib.hid (Hrd5.out.below hb6)
                    go_wp2_with fail; (with_reducible refine (bad_any Hrd6.out).mono ?_); rintro e w7 ⟨rfl, hw7⟩
                    subst hw7
                    go_wp2
                    go_roundw
                    case rel => exact ⟨k + 1, at0, true, _, by omega, hat, by go_num, rfl, rfl, Hrd6.out, (fun h => by cases h), B6⟩
                    case measure => simp [intOf]; omega
          have n3 : (x.kind == 3) = false := by rw [beq_eq_false_iff_ne]; exact e3
          clear e3
          by_cases e4 : x.kind = 4
          · as_aux_lemma =>
              rw [e4] at d0 hb3 Hrd3 Hb3 hz3
              clear e4
              by_cases hlen : at0 < lb.length
              · cases bad with
                | true =>
                  go_wp2_with fail; (with_reducible refine (byte_bad Hrd3.out (.inl rfl)).mono ?_); rintro en w5 ⟨rfl, hrd5, hg5⟩
                  have B5 := hb3.grown hg5 hz3 (fun q hq => by cases hq; exact hp0)
                  have Hrd5 := Lib.hid hrd5
                  clear hrd5 hg5
                  go_wp2_with fail; (with_reducible refine (bad_any Hrd5.out).mono ?_); rintro e w7 ⟨rfl, hw7⟩
                  subst hw7
                  go_wp2
                  go_roundw
                  case rel => exact ⟨k + 1, at0, true, _, by omega, hat, by go_num, rfl, rfl, Hrd5.out, (fun h => by cases h), B5⟩
                  case measure => simp [intOf]; omega
                | false =>
                  have hlr := Hlr.out rfl
                  rw [drop_cons lb at0 hlen] at hlr
                  subst hlr
                  obtain ⟨bb, bo, rfl⟩ := Hb.out.addr (by omega)
                  have hcell : (wr.alloc (.cells #[.int .i64 4, .int .i64 x.n, .slice ao x.b.length cc] 46)).cell? ⟨bb, bo + at0, none⟩ = some (.int .u8 ((lb[at0]).toNat : Int)) := by
                    obtain ⟨ao, c2, hv, _, hc⟩ := Hb3.out
                    obtain ⟨b2, off2, hb2, hcell⟩ := hc (by omega)
                    simp only [Value.slice.injEq] at hv
                    rw [hb2] at hv
                    obtain ⟨h1, _⟩ := hv
                    cases h1
                    exact hcell at0 hlen
                  have hcell2 : wr.cell? ⟨bb, bo + at0, none⟩ = some (.int .u8 ((lb[at0]).toNat : Int)) := by
                    obtain ⟨ao, c2, hv, _, hc⟩ := Hb.out.below hbr
                    obtain ⟨b2, off2, hb2, hcell⟩ := hc (by omega)
                    simp only [Value.slice.injEq] at hv
                    rw [hb2] at hv
                    obtain ⟨h1, _⟩ := hv
                    cases h1
                    exact hcell at0 hlen
                  generalize lb[at0] = y at *
                  go_wp2_with fail; (with_reducible refine (byte_ok Hrd3.out).mono ?_); rintro en w5 ⟨rfl, hrd5, hg5⟩
                  have B5 := hb3.grown hg5 hz3 (fun q hq => by cases hq; exact hp0)
                  have Hrd5 := Lib.hid hrd5
                  clear hrd5 hg5 hcell hcell2
                  go_wp2_with fail; (with_reducible refine (bad_any Hrd5.out).mono ?_); rintro e w7 ⟨rfl, hw7⟩
                  subst hw7
                  have hlf := left_drop Hrd5.out (by omega)
                  have Hlf := Lib.hid hlf
                  clear hlf
                  go_wp2_with fail; (with_reducible refine (Hlf.out).mono ?_); rintro e w8 ⟨rfl, hw8⟩
                  subst hw8
                  go_wp2
                  go_roundw
                  case rel => exact ⟨k + 1, at0 + 1, false, lb.drop (at0 + 1), by omega, by omega, by go_num, by go_num, rfl, Hrd5.out, fun _ => rfl, B5⟩
                  case measure => simp [intOf]; omega
              · cases bad with
                | true =>
                  go_wp2_with fail; (with_reducible refine (byte_bad Hrd3.out (.inl rfl)).mono ?_); rintro en w5 ⟨rfl, hrd5, hg5⟩
                  have B5 := hb3.grown hg5 hz3 (fun q hq => by cases hq; exact hp0)
                  have Hrd5 := Lib.hid hrd5
                  clear hrd5 hg5
                  go_wp2_with fail; (with_reducible refine (bad_any Hrd5.out).mono ?_); rintro e w7 ⟨rfl, hw7⟩
                  subst hw7
                  go_wp2
                  go_roundw
                  case rel => exact ⟨k + 1, at0, true, _, by omega, hat, by go_num, rfl, rfl, Hrd5.out, (fun h => by cases h), B5⟩
                  case measure => simp [intOf]; omega
                | false =>
                  have hlr := Hlr.out rfl
                  rw [List.drop_of_length_le (by omega)] at hlr
                  subst hlr
                  go_wp2_with fail; (with_reducible refine (byte_bad Hrd3.out (.inr rfl)).mono ?_); rintro en w5 ⟨rfl, hrd5, hg5⟩
                  have B5 := hb3.grown hg5 hz3 (fun q hq => by cases hq; exact hp0)
                  have Hrd5 := Lib.hid hrd5
                  clear hrd5 hg5
                  go_wp2_with fail; (with_reducible refine (bad_any Hrd5.out).mono ?_); rintro e w7 ⟨rfl, hw7⟩
                  subst hw7
                  go_wp2
                  go_roundw
                  case rel => exact ⟨k + 1, at0, true, _, by omega, hat, by go_num, rfl, rfl, Hrd5.out, (fun h => by cases h), B5⟩
                  case measure => simp [intOf]; omega
          have n4 : (x.kind == 4) = false := by rw [beq_eq_false_iff_ne]; exact e4
          clear e4
          go_wp2
          go_roundw
          case rel => exact ⟨k + 1, at0, bad, lr, by omega, hat, by go_num, rfl, rfl, Hrd3.out, Hlr.out, hb3⟩
          case measure => simp [intOf]; omega
        · cases bad with
          | true =>
            go_wp2_with fail; (with_reducible refine (done_any Hrd.out 20 (by simp)).mono ?_); rintro e w8 ⟨rfl, hw8⟩
            subst hw8
            go_wp2_with fail; (with_reducible refine (awake_any _).mono ?_); rintro e wa ⟨rfl, hba⟩
            go_wp2
            go_ret
            exact ⟨rfl, bnext hbr hba⟩
          | false =>
            have hlr := Hlr.out rfl
            subst hlr
            by_cases hend : at0 = lb.length
            · subst hend
              go_wp2_with fail; (with_reducible refine (done_any Hrd.out 0 (by simp)).mono ?_); rintro e w8 ⟨rfl, hw8⟩
              subst hw8
              go_wp2_with fail; (with_reducible refine (awake_any _).mono ?_); rintro e wa ⟨rfl, hba⟩
              go_wp2
              go_ret
              exact ⟨rfl, bnext hbr hba⟩
            · have hne : ((at0 : Int) == (lb.length : Int)) = false := by rw [beq_eq_false_iff_ne]; omega
              go_wp2_with fail; (with_reducible refine (done_any Hrd.out 20 (by simp; omega)).mono ?_); rintro e w8 ⟨rfl, hw8⟩
              subst hw8
              go_wp2_with fail; (with_reducible refine (awake_any _).mono ?_); rintro e wa ⟨rfl, hba⟩
              go_wp2
              go_ret
              exact ⟨rfl, bnext hbr hba⟩
    · have h2 : smallB its = false := by simpa using h2
      have H2 := Lib.hid h2
      clear h2
      go_enter Try.func5, Try.ntmps5
      go_wp2_with fail; (with_reducible refine (small_any HI.out Hil.out).mono ?_); rintro e w1 ⟨rfl, hb1⟩
      rw [H2.out]
      go_wp2_with fail; (with_reducible refine (awake_any _).mono ?_); rintro e wa ⟨rfl, hba⟩
      go_wp2
      go_ret
      exact ⟨rfl, bnext hb1 hba⟩
  · go_enter Try.func5, Try.ntmps5
    go_wp2_with fail; (with_reducible refine (awake_any _).mono ?_); rintro e wa ⟨rfl, hba⟩
    go_wp2
    go_ret
    exact ⟨rfl, hba⟩
end Go.Proofs.Ytpdkekpdahefgaa
