/- The walk of IkeyOrders. -/
import Derived.Test.YtpnfpgjmpcnnnaaRef03
import Derived.Test.YtpnfpgjmpcnnnaaKeyOrd
import Derived.Test.YtpnfpgjmpcnnnaaLess
namespace Go.Proofs.Ytpnfpgjmpcnnnaa
open Go.RowKit
set_option linter.unusedVariables false

theorem keybytes_bad (u : ByteArray) (s k : Int) (w : World) (h : keyRight u s k = false) :
    Calls Try.prog 17 #[.agg #[.string u, .int .i64 s, .int .i64 k]] w fun e w' => e = .returned (.tuple #[.slice none 0 0, .int .i64 30]) ∧ Below w.heap.size w w' := by
  go_enter Try.func17, Try.ntmps17
  go_wp2_with (go_at_call 22; (with_reducible refine (check_bad u s k _ h).mono ?_); rintro e w' ⟨rfl, rfl⟩)
  go_ret2
  exact ⟨rfl, by (repeat first | exact Below.refl _ _ | refine Below.drew ?_ | refine Below.alloc ?_ (by simp <;> omega) _ | refine Below.setCell ?_ (by simp <;> omega) _)⟩

theorem cmp_neg (u v : ByteArray) (s t k l : Int) (p : Int) (h : kcmp u s k v t l = p) : kcmp v t l u s k = -p := by rw [kcmp_anti, h]

theorem ob_reads {w0 w : World} {B : Nat} {v : Value} {l : List UInt8} (h : OB w0 B v l) (hb : Below w0.heap.size w0 w) : RB w v l := (h.reads).below hb

set_option maxRecDepth 100000 in
set_option maxHeartbeats 4000000 in
theorem orders_yes (u v : ByteArray) (s t k l : Int) (w : World) (hu : u.size ≤ 300) (hv : v.size ≤ 300) :
    Calls Try.prog 5 #[.agg #[.string u, .int .i64 s, .int .i64 k], .agg #[.string v, .int .i64 t, .int .i64 l]] w fun e w' => e = .returned (.bool true) ∧ Below w.heap.size w w' := by
  have mu : u.size ≤ maxLen := Nat.le_trans hu (by decide)
  have mv : v.size ≤ maxLen := Nat.le_trans hv (by decide)
  obtain ⟨p, hp⟩ : ∃ p, kcmp u s k v t l = p := ⟨_, rfl⟩
  have hpr := kcmp_range u v s t k l
  rw [hp] at hpr
  have hp1 : -1 ≤ p := by omega
  have hp2 : p ≤ 1 := by omega
  have Hp := Lib.hid hp
  clear hp hpr
  go_enter Try.func5, Try.ntmps5
  go_upto_region 1 with (fail)
  refine gen_wp (fun w' => Below w.heap.size w w' ∧ w'.cell? ⟨w.heap.size, 0, none⟩ = some (.string u) ∧ w'.cell? ⟨w.heap.size, 1, none⟩ = some (.int .i64 s) ∧ w'.cell? ⟨w.heap.size, 2, none⟩ = some (.int .i64 k) ∧
    w'.cell? ⟨w.heap.size + 1, 0, none⟩ = some (.string v) ∧ w'.cell? ⟨w.heap.size + 1, 1, none⟩ = some (.int .i64 t) ∧ w'.cell? ⟨w.heap.size + 1, 2, none⟩ = some (.int .i64 l)) ?_ ?_
  · refine ⟨?_, ?_, ?_, ?_, ?_, ?_, ?_⟩
    · (repeat first | exact Below.refl _ _ | refine Below.drew ?_ | refine Below.alloc ?_ (by simp <;> omega) _ | refine Below.setCell ?_ (by simp <;> omega) _)
    all_goals go_simp
  rintro w0 ⟨hb0, c0, c1, c2, c3, c4, c5⟩
  have s0 := cell_next c0
  have s1 := cell_next c1
  have s2 := cell_next c2
  have s3 := cell_next c3
  have s4 := cell_next c4
  have s5 := cell_next c5
  clear c0 c1 c2 c3 c4 c5
  have B0 := Below.refl w0.heap.size w0
  go_wp2_with (first
    | (go_at_call 10; (with_reducible refine (small_yes _ _ _ _ hu).mono ?_); rintro e w1 ⟨rfl, hb1⟩; have B1 := bnext B0 hb1)
    | (go_at_call 10; (with_reducible refine (small_yes _ _ _ _ hv).mono ?_); rintro e w2 ⟨rfl, hb2⟩; have B2 := bnext B1 hb2))
  have Bg := bnext_grow B2
  refine wp_region_quiet_below (by kernel_rfl) (by kernel_rfl) ?_; (repeat (go_big_quiet_step ((first
    | (go_at_call 16; (with_reducible refine Calls.regrown_of (lawref_any u s k _)))
    | (go_at_call 16; (with_reducible refine Calls.regrown_of (lawref_any v t l _)))
    | (go_at_call 15; (with_reducible refine Calls.regrown_of (refcmp_any u v s t k l _ mu mv p Hp.out))))))); refine wpQuiet_nil ?_; rintro _ ⟨pq, rfl⟩
  have B3 := Bg pq.d pq.os
  generalize Go.Sort.grow (redrawn w2 pq.d) pq.os = w3 at B3
  clear Bg B1 B2
  cases h1 : keyRight u s k with
  | false =>
    cases h2 : keyRight v t l with
    | false =>
      have H1 := Lib.hid h1
      have H2 := Lib.hid h2
      clear h1 h2
      go_wp2_with (first
        | (go_at_call 12; (with_reducible refine (keycmp' u v s t k l _ p Hp.out).mono ?_); rintro e w4 ⟨rfl, hb4⟩; have B4 := bnext B3 hb4)
        | (go_at_call 12; (with_reducible refine (keycmp' v u t s l k _ (-p) (cmp_neg u v s t k l p Hp.out)).mono ?_); rintro e w5 ⟨rfl, hb5⟩; have B5 := bnext B4 hb5)
        | (go_at_call 17; (with_reducible refine (keybytes_bad u s k _ H1.out).mono ?_); rintro e w6 ⟨rfl, hb6⟩; have B6 := bnext B5 hb6)
        | (go_at_call 17; (with_reducible refine (keybytes_bad v t l _ H2.out).mono ?_); rintro e w7 ⟨rfl, hb7⟩; have B7 := bnext B6 hb7)
        | (go_at_call 11; (with_reducible refine (awake_any _).mono ?_); rintro e wb ⟨rfl, hbb⟩; have Bb := bnext B7 hbb))
      go_ret
      exact ⟨rfl, hb0.trans (Bb.mono hb0.size)⟩
    | true =>
      have H1 := Lib.hid h1
      have H2 := Lib.hid h2
      clear h1 h2
      go_wp2_with (first
        | (go_at_call 12; (with_reducible refine (keycmp' u v s t k l _ p Hp.out).mono ?_); rintro e w4 ⟨rfl, hb4⟩; have B4 := bnext B3 hb4)
        | (go_at_call 12; (with_reducible refine (keycmp' v u t s l k _ (-p) (cmp_neg u v s t k l p Hp.out)).mono ?_); rintro e w5 ⟨rfl, hb5⟩; have B5 := bnext B4 hb5)
        | (go_at_call 17; (with_reducible refine (keybytes_bad u s k _ H1.out).mono ?_); rintro e w6 ⟨rfl, hb6⟩; have B6 := bnext B5 hb6)
        | (go_at_call 17; (with_reducible refine (keybytes v t l _ H2.out).mono ?_); rintro e w7 ⟨v7, rfl, ho7, hb7⟩; have B7 := bnext B6 hb7; clear ho7)
        | (go_at_call 11; (with_reducible refine (awake_any _).mono ?_); rintro e wb ⟨rfl, hbb⟩; have Bb := bnext B7 hbb))
      go_ret
      exact ⟨rfl, hb0.trans (Bb.mono hb0.size)⟩
  | true =>
    cases h2 : keyRight v t l with
    | false =>
      have H1 := Lib.hid h1
      have H2 := Lib.hid h2
      clear h1 h2
      go_wp2_with (first
        | (go_at_call 12; (with_reducible refine (keycmp' u v s t k l _ p Hp.out).mono ?_); rintro e w4 ⟨rfl, hb4⟩; have B4 := bnext B3 hb4)
        | (go_at_call 12; (with_reducible refine (keycmp' v u t s l k _ (-p) (cmp_neg u v s t k l p Hp.out)).mono ?_); rintro e w5 ⟨rfl, hb5⟩; have B5 := bnext B4 hb5)
        | (go_at_call 17; (with_reducible refine (keybytes u s k _ H1.out).mono ?_); rintro e w6 ⟨v6, rfl, ho6, hb6⟩; have B6 := bnext B5 hb6; clear ho6)
        | (go_at_call 17; (with_reducible refine (keybytes_bad v t l _ H2.out).mono ?_); rintro e w7 ⟨rfl, hb7⟩; have B7 := bnext B6 hb7)
        | (go_at_call 11; (with_reducible refine (awake_any _).mono ?_); rintro e wb ⟨rfl, hbb⟩; have Bb := bnext B7 hbb))
      go_ret
      exact ⟨rfl, hb0.trans (Bb.mono hb0.size)⟩
    | true =>
      have hz1 : (decide (kcmp u s k v t l < 0)) = decide (p < 0) := by rw [Hp.out]
      have Hc : Hid (Lib.compareBytes (keyBytes u.data.toList s k) (keyBytes v.data.toList t l) = p) := by rw [cmp_keyBytes0 u v s t k l h1 h2]; exact Hp
      have Hc2 : Hid (Lib.compareBytes (keyBytes v.data.toList t l) (keyBytes u.data.toList s k) = -p) := by rw [cmp_keyBytes0 v u t s l k h2 h1]; exact cmp_neg u v s t k l p Hp.out
      obtain ⟨x, hx⟩ : ∃ x, decide (p < 0) = x := ⟨_, rfl⟩
      obtain ⟨y, hy⟩ : ∃ y, decide (0 < p) = y := ⟨_, rfl⟩
      obtain ⟨z, hz⟩ : ∃ z, (p == 0) = z := ⟨_, rfl⟩
      have Hx : Hid (decide (Lib.compareBytes (keyBytes u.data.toList s k) (keyBytes v.data.toList t l) < 0) = x) := by rw [Hc.out]; exact hx
      have Hy : Hid (decide (Lib.compareBytes (keyBytes v.data.toList t l) (keyBytes u.data.toList s k) < 0) = y) := by rw [Hc2.out, ← hy]; exact decide_eq_decide.2 (by omega)
      have Hz : Hid ((keyBytes u.data.toList s k == keyBytes v.data.toList t l) = z) := by
        show _ = _
        rw [← hz, Bool.eq_iff_iff, beq_iff_eq, beq_iff_eq, ← Hc.out]
        exact ⟨fun h => by rw [h]; exact cmpB_refl _, cmpB_eq _ _⟩
      clear hz1
      have H1 := Lib.hid h1
      have H2 := Lib.hid h2
      clear h1 h2
      go_wp2_with (first
        | (go_at_call 12; (with_reducible refine (keycmp' u v s t k l _ p Hp.out).mono ?_); rintro e w4 ⟨rfl, hb4⟩; have B4 := bnext B3 hb4)
        | (go_at_call 12; (with_reducible refine (keycmp' v u t s l k _ (-p) (cmp_neg u v s t k l p Hp.out)).mono ?_); rintro e w5 ⟨rfl, hb5⟩; have B5 := bnext B4 hb5)
        | (go_at_call 17; (with_reducible refine (keybytes u s k _ H1.out).mono ?_); rintro e w6 ⟨v6, rfl, ho6, hb6⟩; have B6 := bnext B5 hb6; have Ho6 := Lib.hid ho6; clear ho6)
        | (go_at_call 17; (with_reducible refine (keybytes v t l _ H2.out).mono ?_); rintro e w7 ⟨v7, rfl, ho7, hb7⟩; have B7 := bnext B6 hb7; have Ho7 := Lib.hid ho7; clear ho7; have r6 := Lib.hid (ob_reads Ho6.out hb7); have r7 := Lib.hid Ho7.out.reads)
        | (go_at_call 18; (with_reducible refine (less_b r6.out r7.out x Hx.out).mono ?_); rintro e w8 ⟨rfl, hb8⟩; have B8 := bnext B7 hb8; have q6 := Lib.hid (r6.out.below hb8); have q7 := Lib.hid (r7.out.below hb8))
        | (go_at_call 18; (with_reducible refine (less_b q7.out q6.out y Hy.out).mono ?_); rintro e w9 ⟨rfl, hb9⟩; have B9 := bnext B8 hb9; have t6 := Lib.hid (q6.out.below hb9); have t7 := Lib.hid (q7.out.below hb9))
        | (go_at_call 19; (with_reducible refine (same_b t6.out t7.out z Hz.out).mono ?_); rintro e wa ⟨rfl, hba⟩; have Ba := bnext B9 hba)
        | (go_at_call 11; (with_reducible refine (awake_any _).mono ?_); rintro e wb ⟨rfl, hbb⟩; have Bb := bnext Ba hbb))
      go_ret
      exact ⟨rfl, hb0.trans (Bb.mono hb0.size)⟩

set_option maxRecDepth 100000 in
set_option maxHeartbeats 1000000 in
theorem orders_no (u v : ByteArray) (s t k l : Int) (w : World) (mu : u.size ≤ maxLen) (mv : v.size ≤ maxLen) (h : 300 < u.size ∨ 300 < v.size) :
    Calls Try.prog 5 #[.agg #[.string u, .int .i64 s, .int .i64 k], .agg #[.string v, .int .i64 t, .int .i64 l]] w fun e w' => e = .returned (.bool true) ∧ Below w.heap.size w w' := by
  go_enter Try.func5, Try.ntmps5
  go_upto_region 1 with (fail)
  refine gen_wp (fun w' => Below w.heap.size w w' ∧ w'.cell? ⟨w.heap.size, 0, none⟩ = some (.string u) ∧ w'.cell? ⟨w.heap.size, 1, none⟩ = some (.int .i64 s) ∧ w'.cell? ⟨w.heap.size, 2, none⟩ = some (.int .i64 k) ∧
    w'.cell? ⟨w.heap.size + 1, 0, none⟩ = some (.string v) ∧ w'.cell? ⟨w.heap.size + 1, 1, none⟩ = some (.int .i64 t) ∧ w'.cell? ⟨w.heap.size + 1, 2, none⟩ = some (.int .i64 l)) ?_ ?_
  · refine ⟨?_, ?_, ?_, ?_, ?_, ?_, ?_⟩
    · (repeat first | exact Below.refl _ _ | refine Below.drew ?_ | refine Below.alloc ?_ (by simp <;> omega) _ | refine Below.setCell ?_ (by simp <;> omega) _)
    all_goals go_simp
  rintro w0 ⟨hb0, c0, c1, c2, c3, c4, c5⟩
  have s0 := cell_next c0
  have s1 := cell_next c1
  have s2 := cell_next c2
  have s3 := cell_next c3
  have s4 := cell_next c4
  have s5 := cell_next c5
  clear c0 c1 c2 c3 c4 c5
  have B0 := Below.refl w0.heap.size w0
  by_cases hu : u.size ≤ 300
  · have hv : 300 < v.size := by omega
    clear h
    go_wp2_with (first
      | (go_at_call 10; (with_reducible refine (small_yes _ _ _ _ hu).mono ?_); rintro e w1 ⟨rfl, hb1⟩; have B1 := bnext B0 hb1)
      | (go_at_call 10; (with_reducible refine (small_no _ _ _ _ mv hv).mono ?_); rintro e w2 ⟨rfl, hb2⟩; have B2 := bnext B1 hb2)
      | (go_at_call 11; (with_reducible refine (awake_any _).mono ?_); rintro e w4 ⟨rfl, hb4⟩; have B4 := bnext B2 hb4))
    go_ret
    exact ⟨rfl, hb0.trans (B4.mono hb0.size)⟩
  · have hu : 300 < u.size := by omega
    clear h
    go_wp2_with (first
      | (go_at_call 10; (with_reducible refine (small_no _ _ _ _ mu hu).mono ?_); rintro e w1 ⟨rfl, hb1⟩; have B1 := bnext B0 hb1)
      | (go_at_call 11; (with_reducible refine (awake_any _).mono ?_); rintro e w4 ⟨rfl, hb4⟩; have B4 := bnext B1 hb4))
    go_ret
    exact ⟨rfl, hb0.trans (B4.mono hb0.size)⟩
end Go.Proofs.Ytpnfpgjmpcnnnaa
