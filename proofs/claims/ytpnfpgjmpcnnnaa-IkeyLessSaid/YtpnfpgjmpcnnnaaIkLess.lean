/- The walk of IkeyLess. -/
import Derived.Test.YtpnfpgjmpcnnnaaRef03
import Derived.Test.YtpnfpgjmpcnnnaaIkThree
import Derived.Test.YtpnfpgjmpcnnnaaLess
namespace Go.Proofs.Ytpnfpgjmpcnnnaa
open Go.RowKit
set_option linter.unusedVariables false

set_option maxRecDepth 100000 in
set_option maxHeartbeats 2000000 in
theorem iless_yes (a b c : Option Addr) (k1 k2 k3 : Nat) (l m n : List UInt8) (w : World) (ra : RB w (.slice a l.length k1) l) (rb : RB w (.slice b m.length k2) m) (rc : RB w (.slice c n.length k3) n) (hl : l.length ≤ 500) (hm : m.length ≤ 500) (hn : n.length ≤ 500) :
    Calls Try.prog 6 #[.slice a l.length k1, .slice b m.length k2, .slice c n.length k3] w fun e w' => e = .returned (.bool true) ∧ Below w.heap.size w w' := by
  obtain ⟨p, hp⟩ : ∃ p, Lib.compareBytes l m = p := ⟨_, rfl⟩
  obtain ⟨x, hx⟩ : ∃ x, decide (p < 0) = x := ⟨_, rfl⟩
  obtain ⟨y, hy⟩ : ∃ y, decide (Lib.compareBytes m n < 0) = y := ⟨_, rfl⟩
  have Hx : Hid (decide (Lib.compareBytes l m < 0) = x) := by rw [hp]; exact hx
  have Hy := Lib.hid hy
  have Hp := Lib.hid hp
  have Htr : Hid (x = true → y = true → decide (Lib.compareBytes l n < 0) = true) := by
    intro h1 h2
    rw [h1, ← hp] at hx
    rw [h2] at hy
    simp only [decide_eq_true_eq] at hx hy ⊢
    have t := cmpB_trans l m n (by omega) (by omega)
    rcases cmpB_range l n with e | e | e
    · omega
    · have := (t.2 e).1; omega
    · omega
  have Hs : Hid (decide (Lib.compareBytes l l < 0) = false) := by rw [cmpB_refl]; exact Lib.hid rfl
  clear hy hp
  have hca := fun w' (hb : Below w.heap.size w w') => (ra.below hb).string
  have hcb := fun w' (hb : Below w.heap.size w w') => (rb.below hb).string
  have Ra := Lib.hid ra
  have Rb := Lib.hid rb
  have Rc := Lib.hid rc
  clear ra rb rc
  have B0 := Below.refl w.heap.size w
  have Bg := bnext_grow B0
  have hmax : 500 ≤ maxLen := by decide
  go_enter Try.func6, Try.ntmps6
  go_wp2_with fail
  refine wp_region_quiet_below (by kernel_rfl) (by kernel_rfl) ?_; (repeat (go_big_quiet_step ((first
    | (go_at_call 18; (with_reducible refine Calls.regrown_of (less_b (Ra.out.below (Bg _ _)) (Rb.out.below (Bg _ _)) x Hx.out)))
    | (go_at_call 20; (with_reducible refine Calls.regrown_of (Order_b l m _ (by omega) (by omega) p Hp.out))))))); refine wpQuiet_nil ?_; rintro _ ⟨pq, rfl⟩
  have B1 := Bg pq.d pq.os
  generalize Go.Sort.grow (redrawn w pq.d) pq.os = w1 at B1
  cases x with
  | false =>
    go_wp2_with (first
      | (go_at_call 18; (with_reducible refine (less_b (Ra.out.below B1) (Rb.out.below B1) false Hx.out).mono ?_); rintro e w2 ⟨rfl, hb2⟩; have B2 := bnext B1 hb2)
      | (go_at_call 18; (with_reducible refine (less_b (Ra.out.below B2) (Ra.out.below B2) false Hs.out).mono ?_); rintro e w3 ⟨rfl, hb3⟩; have B3 := bnext B2 hb3)
      | (go_at_call 11; (with_reducible refine (awake_any _).mono ?_); rintro e w4 ⟨rfl, hb4⟩; have B4 := bnext B3 hb4))
    go_ret
    exact ⟨rfl, B4⟩
  | true =>
    cases y with
    | false =>
      go_wp2_with (first
        | (go_at_call 18; (with_reducible refine (less_b (Ra.out.below B1) (Rb.out.below B1) true Hx.out).mono ?_); rintro e w2 ⟨rfl, hb2⟩; have B2 := bnext B1 hb2)
        | (go_at_call 18; (with_reducible refine (less_b (Rb.out.below B2) (Rc.out.below B2) false Hy.out).mono ?_); rintro e w5 ⟨rfl, hb5⟩; have B5 := bnext B2 hb5)
        | (go_at_call 18; (with_reducible refine (less_b (Ra.out.below B5) (Ra.out.below B5) false Hs.out).mono ?_); rintro e w3 ⟨rfl, hb3⟩; have B3 := bnext B5 hb3)
        | (go_at_call 11; (with_reducible refine (awake_any _).mono ?_); rintro e w4 ⟨rfl, hb4⟩; have B4 := bnext B3 hb4))
      go_ret
      exact ⟨rfl, B4⟩
    | true =>
      have Hz := Lib.hid (Htr.out rfl rfl)
      go_wp2_with (first
        | (go_at_call 18; (with_reducible refine (less_b (Ra.out.below B1) (Rb.out.below B1) true Hx.out).mono ?_); rintro e w2 ⟨rfl, hb2⟩; have B2 := bnext B1 hb2)
        | (go_at_call 18; (with_reducible refine (less_b (Rb.out.below B2) (Rc.out.below B2) true Hy.out).mono ?_); rintro e w5 ⟨rfl, hb5⟩; have B5 := bnext B2 hb5)
        | (go_at_call 18; (with_reducible refine (less_b (Ra.out.below B5) (Rc.out.below B5) true Hz.out).mono ?_); rintro e w6 ⟨rfl, hb6⟩; have B6 := bnext B5 hb6)
        | (go_at_call 18; (with_reducible refine (less_b (Ra.out.below B6) (Ra.out.below B6) false Hs.out).mono ?_); rintro e w3 ⟨rfl, hb3⟩; have B3 := bnext B6 hb3)
        | (go_at_call 11; (with_reducible refine (awake_any _).mono ?_); rintro e w4 ⟨rfl, hb4⟩; have B4 := bnext B3 hb4))
      go_ret
      exact ⟨rfl, B4⟩

set_option maxHeartbeats 1000000 in
theorem iless_no (a b c : Option Addr) (k1 k2 k3 : Nat) (l m n : List UInt8) (w : World) (hl : l.length ≤ maxLen) (hm : m.length ≤ maxLen) (hn : n.length ≤ maxLen) (h : 500 < l.length ∨ 500 < m.length ∨ 500 < n.length) :
    Calls Try.prog 6 #[.slice a l.length k1, .slice b m.length k2, .slice c n.length k3] w fun e w' => e = .returned (.bool true) ∧ Below w.heap.size w w' := by
  unfold maxLen at hl hm hn
  by_cases h1 : 500 < l.length
  · go_enter Try.func6, Try.ntmps6
    go_wp2_with (go_at_call 11; (with_reducible refine (awake_any _).mono ?_); rintro e w4 ⟨rfl, hb4⟩)
    go_ret
    exact ⟨rfl, hb4⟩
  · by_cases h2 : 500 < m.length
    · go_enter Try.func6, Try.ntmps6
      go_wp2_with (go_at_call 11; (with_reducible refine (awake_any _).mono ?_); rintro e w4 ⟨rfl, hb4⟩)
      go_ret
      exact ⟨rfl, hb4⟩
    · have h3 : 500 < n.length := by omega
      clear h
      go_enter Try.func6, Try.ntmps6
      go_wp2_with (go_at_call 11; (with_reducible refine (awake_any _).mono ?_); rintro e w4 ⟨rfl, hb4⟩)
      go_ret
      exact ⟨rfl, hb4⟩
end Go.Proofs.Ytpnfpgjmpcnnnaa
