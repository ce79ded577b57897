/- Chapter 11: MemSplit: no batches; how its argument is read. -/
import Derived.Test.YtcbkjhbneigkaaaYMl6
import Derived.Test.YtcbkjhbneigkaaaYOp11
namespace Go.Proofs.Ytcbkjhbneigkaaa
open Go.RowKit
set_option linter.unusedVariables false
set_option linter.unusedSimpArgs false

theorem nil_bats (w : World) (a : Option Addr) : BTs w a [] := ⟨fun h => absurd h (Nat.lt_irrefl _), fun x hx => absurd hx (by simp)⟩
theorem msmall_nil (w : World) : Calls Try.prog 12 #[.slice none 0 0] w fun e w' => e = .returned (.bool true) ∧ Below w.heap.size w w' := msmall (l := []) (c := 0) (nil_bats w none) (by decide)
theorem mfill_nil (w : World) : Calls Try.prog 13 #[.slice none 0 0, .slice none 0 0] w (FillOut w [] (-1)) := mfill0 (l := []) (c := 0) (nil_bats w none) (by decide)
set_option maxRecDepth 100000 in
set_option maxHeartbeats 4000000 in
theorem split11_nil {w : World} {cut at' : Int} :
    Calls Try.prog 4 #[.slice none 0 0, .int .i64 cut, .int .i64 at'] w fun e w' => e = .returned (.bool true) ∧ Below w.heap.size w w' := by
  by_cases hd : cut = 0
  case neg =>
    have hd2 : cut < 0 ∨ 0 < cut := by omega
    clear hd
    rcases hd2 with hd | hd
    all_goals
      go_enter Try.func4, Try.ntmps4
      go_wp2_with fail; (with_reducible refine (msmall_nil w).mono ?_); rintro e w1 ⟨rfl, hb1⟩
      go_wp2_with fail; (with_reducible refine (awake11 _).mono ?_); rintro e w2 ⟨rfl, hb2⟩
      go_wp2
      go_ret
      exact ⟨rfl, bnext hb1 hb2⟩
  subst hd
  go_enter Try.func4, Try.ntmps4
  go_wp2_with fail; (with_reducible refine (msmall_nil w).mono ?_); rintro e w1 ⟨rfl, hb1⟩
  go_wp2_with fail; (with_reducible refine (mfill_nil w1).mono ?_); rintro e w2 ⟨t, p, F, v, rfl, hT, hR, hb2⟩
  have hB2 := bnext hb1 hb2
  go_wp2_with fail; (with_reducible refine (mfill_nil w2).mono ?_); rintro e w3 ⟨t3, p3, F3, v3, rfl, hT3, hR3, hb3⟩
  have HTA := Lib.hid (hT.below hb3)
  obtain ⟨av, cv, rfl⟩ := (hR.below hb3).shape
  have HT3 := Lib.hid hT3
  have HB3 := Lib.hid (bnext hB2 hb3)
  clear hT hR hT3 hR3 hb1 hb2 hb3 hB2
  go_wp2_with fail; (with_reducible refine (TB.new w3).mono ?_); rintro e w4 ⟨t4, p4, F4, rfl, hT4, hb4⟩
  have HT4 := Lib.hid hT4
  have HTA4 := Lib.hid (HTA.out.below hb4)
  have HTO4 := Lib.hid (HT3.out.below hb4)
  have HB4 := Lib.hid (HB3.out.trans (hb4.mono HB3.out.size))
  clear hT4 hb4
  go_wp2
  go_loopw [62] (fun i wr => i = .int .i64 0 ∧ wr = w4) (fun i _ => 0)
  case atStart => exact ⟨rfl, rfl⟩
  case round =>
    obtain ⟨rfl, rfl⟩ := hrel
    go_wp2
    go_loopw [85] (fun i wx => i = .int .i64 0 ∧ wx = wr) (fun i _ => 0)
    case atStart => exact ⟨rfl, rfl⟩
    case round =>
      obtain ⟨rfl, hwx⟩ := hrel
      subst hwx
      have HL1 := Lib.hid (HT4.out.len (by decide))
      go_wp2_with fail; (with_reducible refine (HL1.out).mono ?_); rintro e wa ⟨rfl, hba⟩
      have HL2 := Lib.hid ((HTO4.out.below hba).len (by decide))
      have HTAa := Lib.hid (HTA4.out.below hba)
      have HBa := Lib.hid (HB4.out.trans (hba.mono HB4.out.size))
      clear hba
      go_wp2_with fail; (with_reducible refine (HL2.out).mono ?_); rintro e wb ⟨rfl, hbb⟩
      have HL3 := Lib.hid ((HTAa.out.below hbb).len (by decide))
      have HBb := Lib.hid (HBa.out.trans (hbb.mono HBa.out.size))
      clear hbb
      go_wp2_with fail; (with_reducible refine (HL3.out).mono ?_); rintro e wc ⟨rfl, hbc⟩
      have HBc := Lib.hid (HBb.out.trans (hbc.mono HBb.out.size))
      clear hbc
      go_wp2_with fail; (with_reducible refine (awake11 _).mono ?_); rintro e wd ⟨rfl, hbd⟩
      go_wp2
      go_ret
      exact ⟨rfl, HBc.out.trans (hbd.mono HBc.out.size)⟩
theorem split11_all {w : World} {a : Option Addr} {c : Nat} {l : List BatD} {cut at' : Int} (h : BTs w a l) (hm : l.length ≤ maxLen ∧ ((a = none ∧ l = [] ∧ c = 0) ∨ ∃ x, a = some x ∧ l.length ≤ c ∧ c ≤ maxLen)) (hc1 : -9223372036854775808 ≤ cut) (hc2 : cut ≤ 9223372036854775807) (ha : -9223372036854775808 ≤ at') (ha2 : at' ≤ 9223372036854775807) :
    Calls Try.prog 4 #[.slice a l.length c, .int .i64 cut, .int .i64 at'] w fun e w' => e = .returned (.bool true) ∧ Below w.heap.size w w' := by
  obtain ⟨hl, ⟨rfl, rfl, rfl⟩ | ⟨x, rfl, hlc, hcm⟩⟩ := hm
  · exact split11_nil
  · exact split11 h hl hlc hcm hc1 hc2 ha ha2
end Go.Proofs.Ytcbkjhbneigkaaa
