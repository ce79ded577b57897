/- BatchParses: its walk. -/
import Derived.Test.YtmgifejmheoddaaBparPl
import Derived.Test.YtmgifejmheoddaaBaw
import Derived.Test.YtmgifejmheoddaaLess
namespace Go.Proofs.Ytmgifejmheoddaa
open Go.RowKit
set_option linter.unusedVariables false

set_option maxRecDepth 100000 in
set_option maxHeartbeats 4000000 in
theorem bparses_yes {w : World} {ao : Option Addr} {c : Nat} {l : List UInt8} (h : RB w (.slice ao l.length c) l) (hl : l.length ≤ maxLen) :
    Calls Try.prog 7 #[.slice ao l.length c] w fun e w' => e = .returned (.bool true) ∧ Below w.heap.size w w' := by
  unfold maxLen at hl
  by_cases hs : l.length ≤ 5000
  case neg =>
    have hs : 5000 < l.length := by omega
    clear h
    go_enter Try.func7, Try.ntmps7
    go_wp2_with fail; (with_reducible refine (awake_any _).mono ?_); rintro e w1 ⟨rfl, hb1⟩
    go_wp2
    go_ret
    exact ⟨rfl, hb1⟩
  case pos =>
    have hp := batparse h (by omega)
    have Hp := Lib.hid hp
    have H := Lib.hid h
    clear h hp
    go_enter Try.func7, Try.ntmps7
    cases hb : batP l with
    | none =>
      rw [hb] at Hp
      clear hb
      go_wp2_with fail; (with_reducible refine (Hp.out).mono ?_); rintro e w1 ⟨hb1, rfl⟩
      have HB1 := Lib.hid hb1
      clear hb1 Hp
      go_upto_region 4 with fail
      refine gen_wp (fun w' => w'.cell? ⟨w1.heap.size, 0, none⟩ = some (.int .i64 0) ∧ w'.cell? ⟨w1.heap.size, 1, none⟩ = some (.slice none 0 0) ∧ Below w.heap.size w w') ?_ ?_
      · refine ⟨?_, ?_, HB1.out.alloc HB1.out.size _⟩
        all_goals go_simp
      rintro w2 ⟨c0, c1, B2⟩
      go_wp2_with fail; (with_reducible refine (awake_any _).mono ?_); rintro e w3 ⟨rfl, hb3⟩
      go_wp2
      go_ret
      exact ⟨rfl, bnext B2 hb3⟩
    | some x =>
      obtain ⟨s, m⟩ := x
      rw [hb] at Hp
      obtain ⟨hm1, hm2⟩ := batP_back hb
      obtain ⟨hall, g1, g2, g3, g4⟩ := batRight_all hm2
      have Hm1 := Lib.hid hm1
      have Hm2 := Lib.hid hm2
      have Hall := Lib.hid hall
      clear hb hm1 hm2 hall
      go_wp2_with fail; (with_reducible refine (Hp.out).mono ?_); rintro e w1 ⟨hb1, a, c', rfl, hrow⟩
      have hok : ∀ x ∈ m, OpOk x := fun x hx => opRight_ok (Hall.out x hx)
      obtain ⟨a', c'', e, hT⟩ := ops_of_row rfl hrow hok
      cases e
      have HT := Lib.hid hT
      have HB1 := Lib.hid hb1
      have hml : m.length ≤ maxLen := by unfold maxLen; omega
      clear hb1 Hp hrow hT hok
      go_upto_region 4 with fail
      refine gen_wp (fun w' => w'.cell? ⟨w1.heap.size, 0, none⟩ = some (.int .i64 s) ∧ w'.cell? ⟨w1.heap.size, 1, none⟩ = some (.slice a m.length c') ∧ Below w.heap.size w w' ∧ Below w1.heap.size w1 w') ?_ ?_
      · refine ⟨?_, ?_, HB1.out.alloc HB1.out.size _, (Below.refl _ w1).alloc (Nat.le_refl _) _⟩
        all_goals go_simp
      rintro w2 ⟨c0, c1, B2, B12⟩
      have HT2 := Lib.hid (HT.out.below B12)
      have hby := batbytes (c := c') HT2.out hml s Hm2.out
      have Hby := Lib.hid hby
      clear hby HT B12
      go_wp2_with fail; (with_reducible refine (Hby.out).mono ?_); rintro e w3 hbo
      obtain ⟨v3, rfl, hob3, _, hb3⟩ := hbo
      have e0 := cell_next c0 _ hb3
      have e1 := cell_next c1 _ hb3
      have hc := batcheck (c := c') (HT2.out.below hb3) hml s 0 (by rw [Hm2.out, if_pos rfl])
      have Hc := Lib.hid hc
      have HR3 := Lib.hid (H.out.below (bnext B2 hb3))
      have Hob3 := Lib.hid hob3
      have B3 := bnext B2 hb3
      clear hc hob3 HT2
      go_wp2_with fail; (with_reducible refine (Hc.out).mono ?_); rintro e w4 ⟨rfl, hb4⟩
      have hsame := same_b (HR3.out.below hb4) (Hob3.out.reads.below hb4) true (by rw [Hm1.out, beq_iff_eq])
      have Hsame := Lib.hid hsame
      clear hsame
      go_wp2_with fail; (with_reducible refine (Hsame.out).mono ?_); rintro e w5 ⟨rfl, hb5⟩
      go_wp2_with fail; (with_reducible refine (awake_any _).mono ?_); rintro e w6 ⟨rfl, hb6⟩
      go_wp2
      go_ret
      exact ⟨rfl, bnext (bnext (bnext B3 hb4) hb5) hb6⟩
end Go.Proofs.Ytmgifejmheoddaa
