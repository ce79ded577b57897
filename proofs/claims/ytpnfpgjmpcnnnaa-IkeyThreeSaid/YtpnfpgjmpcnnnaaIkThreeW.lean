/- The walk of IkeyThree. -/
import Derived.Test.YtpnfpgjmpcnnnaaIkThree
namespace Go.Proofs.Ytpnfpgjmpcnnnaa
open Go.RowKit

set_option maxRecDepth 100000 in
set_option maxHeartbeats 2000000 in
theorem three_yes (u v x : ByteArray) (s t y k l m : Int) (w : World) (hu : u.size ≤ 300) (hv : v.size ≤ 300) (hx : x.size ≤ 300) :
    Calls Try.prog 3 #[.agg #[.string u, .int .i64 s, .int .i64 k], .agg #[.string v, .int .i64 t, .int .i64 l], .agg #[.string x, .int .i64 y, .int .i64 m]] w fun e w' => e = .returned (.bool true) ∧ Below w.heap.size w w' := by
  obtain ⟨p, hp⟩ : ∃ p, kcmp u s k v t l = p := ⟨_, rfl⟩
  obtain ⟨q, hq⟩ : ∃ q, kcmp v t l x y m = q := ⟨_, rfl⟩
  obtain ⟨r, hr⟩ : ∃ r, kcmp u s k x y m = r := ⟨_, rfl⟩
  have htr := kcmp_trans u v x s t y k l m
  rw [hp, hq, hr] at htr
  have Hp := Lib.hid hp
  have Hq := Lib.hid hq
  have Hr := Lib.hid hr
  clear hp hq hr
  have Htr := Lib.hid htr
  clear htr
  obtain ⟨z, hz⟩ : ∃ z, (p == 0) = z := ⟨_, rfl⟩
  have heq : ∀ w, (binOp .eql 23 (.agg #[.string u, .int .i64 s, .int .i64 k]) (.agg #[.string v, .int .i64 t, .int .i64 l])).run Try.prog w = .ok (.bool z) w := by
    intro w; rw [eqKey, ← kcmp_zero, Hp.out, hz]
  have hG := ksG
  go_enter Try.func3, Try.ntmps3
  go_upto_region 1 with (fail)
  refine gen_wp (fun w' => Below w.heap.size w w' ∧ w'.cell? ⟨w.heap.size, 0, none⟩ = some (.string u) ∧ w'.cell? ⟨w.heap.size, 1, none⟩ = some (.int .i64 s) ∧ w'.cell? ⟨w.heap.size, 2, none⟩ = some (.int .i64 k) ∧
    w'.cell? ⟨w.heap.size + 1, 0, none⟩ = some (.string v) ∧ w'.cell? ⟨w.heap.size + 1, 1, none⟩ = some (.int .i64 t) ∧ w'.cell? ⟨w.heap.size + 1, 2, none⟩ = some (.int .i64 l) ∧
    w'.cell? ⟨w.heap.size + 1 + 1, 0, none⟩ = some (.string x) ∧ w'.cell? ⟨w.heap.size + 1 + 1, 1, none⟩ = some (.int .i64 y) ∧ w'.cell? ⟨w.heap.size + 1 + 1, 2, none⟩ = some (.int .i64 m)) ?_ ?_
  · refine ⟨?_, ?_, ?_, ?_, ?_, ?_, ?_, ?_, ?_, ?_⟩
    · (repeat first | exact Below.refl _ _ | refine Below.drew ?_ | refine Below.alloc ?_ (by simp <;> omega) _ | refine Below.setCell ?_ (by simp <;> omega) _)
    all_goals go_simp
  rintro w0 ⟨hb0, c0, c1, c2, c3, c4, c5, c6, c7, c8⟩
  have s0 := cell_next c0
  have s1 := cell_next c1
  have s2 := cell_next c2
  have s3 := cell_next c3
  have s4 := cell_next c4
  have s5 := cell_next c5
  have s6 := cell_next c6
  have s7 := cell_next c7
  have s8 := cell_next c8
  clear c0 c1 c2 c3 c4 c5 c6 c7 c8
  have B0 := Below.refl w0.heap.size w0
  by_cases h1 : p ≤ 0
  · by_cases h2 : q ≤ 0
    · have h3 := Htr.out h1 h2
      go_wp2_with (first
        | (go_at_call 10; (with_reducible refine (small_yes _ _ _ _ hu).mono ?_); rintro e w1 ⟨rfl, hb1⟩; have B1 := bnext B0 hb1)
        | (go_at_call 10; (with_reducible refine (small_yes _ _ _ _ hv).mono ?_); rintro e w2 ⟨rfl, hb2⟩; have B2 := bnext B1 hb2)
        | (go_at_call 10; (with_reducible refine (small_yes _ _ _ _ hx).mono ?_); rintro e w3 ⟨rfl, hb3⟩; have B3 := bnext B2 hb3)
        | (go_at_call 12; (with_reducible refine (keycmp' u v s t k l _ p Hp.out).mono ?_); rintro e w4 ⟨rfl, hb4⟩; have B4 := bnext B3 hb4)
        | (go_at_call 12; (with_reducible refine (keycmp' v x t y l m _ q Hq.out).mono ?_); rintro e w5 ⟨rfl, hb5⟩; have B5 := bnext B4 hb5)
        | (go_at_call 12; (with_reducible refine (keycmp' u x s y k m _ r Hr.out).mono ?_); rintro e w6 ⟨rfl, hb6⟩; have B6 := bnext B5 hb6))
      have Bg := bnext_grow B6
      refine wp_region_quiet_below (by kernel_rfl) (by kernel_rfl) ?_; (repeat (go_big_quiet_step ((first
        | (go_at_call 12; (with_reducible refine Calls.regrown_of (keycmp' u v s t k l _ p Hp.out)))
        | (go_at_call 12; (with_reducible refine Calls.regrown_of (keycmp' u u s s k k _ 0 (kcmp_refl u s k))))
        | (go_at_call 11; (with_reducible refine Calls.regrown_of (awake_any _))))))); refine wpQuiet_nil ?_; rintro _ ⟨pq, rfl⟩
      go_wp2
      go_ret
      exact ⟨rfl, hb0.trans ((Bg _ _).mono hb0.size)⟩
    · go_wp2_with (first
        | (go_at_call 10; (with_reducible refine (small_yes _ _ _ _ hu).mono ?_); rintro e w1 ⟨rfl, hb1⟩; have B1 := bnext B0 hb1)
        | (go_at_call 10; (with_reducible refine (small_yes _ _ _ _ hv).mono ?_); rintro e w2 ⟨rfl, hb2⟩; have B2 := bnext B1 hb2)
        | (go_at_call 10; (with_reducible refine (small_yes _ _ _ _ hx).mono ?_); rintro e w3 ⟨rfl, hb3⟩; have B3 := bnext B2 hb3)
        | (go_at_call 12; (with_reducible refine (keycmp' u v s t k l _ p Hp.out).mono ?_); rintro e w4 ⟨rfl, hb4⟩; have B4 := bnext B3 hb4)
        | (go_at_call 12; (with_reducible refine (keycmp' v x t y l m _ q Hq.out).mono ?_); rintro e w5 ⟨rfl, hb5⟩; have B5 := bnext B4 hb5))
      have Bg := bnext_grow B5
      refine wp_region_quiet_below (by kernel_rfl) (by kernel_rfl) ?_; (repeat (go_big_quiet_step ((first
        | (go_at_call 12; (with_reducible refine Calls.regrown_of (keycmp' u v s t k l _ p Hp.out)))
        | (go_at_call 12; (with_reducible refine Calls.regrown_of (keycmp' u u s s k k _ 0 (kcmp_refl u s k))))
        | (go_at_call 11; (with_reducible refine Calls.regrown_of (awake_any _))))))); refine wpQuiet_nil ?_; rintro _ ⟨pq, rfl⟩
      go_wp2
      go_ret
      exact ⟨rfl, hb0.trans ((Bg _ _).mono hb0.size)⟩
  · go_wp2_with (first
      | (go_at_call 10; (with_reducible refine (small_yes _ _ _ _ hu).mono ?_); rintro e w1 ⟨rfl, hb1⟩; have B1 := bnext B0 hb1)
      | (go_at_call 10; (with_reducible refine (small_yes _ _ _ _ hv).mono ?_); rintro e w2 ⟨rfl, hb2⟩; have B2 := bnext B1 hb2)
      | (go_at_call 10; (with_reducible refine (small_yes _ _ _ _ hx).mono ?_); rintro e w3 ⟨rfl, hb3⟩; have B3 := bnext B2 hb3)
      | (go_at_call 12; (with_reducible refine (keycmp' u v s t k l _ p Hp.out).mono ?_); rintro e w4 ⟨rfl, hb4⟩; have B4 := bnext B3 hb4))
    have Bg := bnext_grow B4
    refine wp_region_quiet_below (by kernel_rfl) (by kernel_rfl) ?_; (repeat (go_big_quiet_step ((first
      | (go_at_call 12; (with_reducible refine Calls.regrown_of (keycmp' u v s t k l _ p Hp.out)))
      | (go_at_call 12; (with_reducible refine Calls.regrown_of (keycmp' u u s s k k _ 0 (kcmp_refl u s k))))
      | (go_at_call 11; (with_reducible refine Calls.regrown_of (awake_any _))))))); refine wpQuiet_nil ?_; rintro _ ⟨pq, rfl⟩
    go_wp2
    go_ret
    exact ⟨rfl, hb0.trans ((Bg _ _).mono hb0.size)⟩

set_option maxRecDepth 100000 in
set_option maxHeartbeats 1000000 in
theorem three_no (u v x : ByteArray) (s t y k l m : Int) (w : World) (mu : u.size ≤ maxLen) (mv : v.size ≤ maxLen) (mx : x.size ≤ maxLen) (h : 300 < u.size ∨ 300 < v.size ∨ 300 < x.size) :
    Calls Try.prog 3 #[.agg #[.string u, .int .i64 s, .int .i64 k], .agg #[.string v, .int .i64 t, .int .i64 l], .agg #[.string x, .int .i64 y, .int .i64 m]] w fun e w' => e = .returned (.bool true) ∧ Below w.heap.size w w' := by
  go_enter Try.func3, Try.ntmps3
  go_upto_region 1 with (fail)
  refine gen_wp (fun w' => Below w.heap.size w w' ∧ w'.cell? ⟨w.heap.size, 0, none⟩ = some (.string u) ∧ w'.cell? ⟨w.heap.size, 1, none⟩ = some (.int .i64 s) ∧ w'.cell? ⟨w.heap.size, 2, none⟩ = some (.int .i64 k) ∧
    w'.cell? ⟨w.heap.size + 1, 0, none⟩ = some (.string v) ∧ w'.cell? ⟨w.heap.size + 1, 1, none⟩ = some (.int .i64 t) ∧ w'.cell? ⟨w.heap.size + 1, 2, none⟩ = some (.int .i64 l) ∧
    w'.cell? ⟨w.heap.size + 1 + 1, 0, none⟩ = some (.string x) ∧ w'.cell? ⟨w.heap.size + 1 + 1, 1, none⟩ = some (.int .i64 y) ∧ w'.cell? ⟨w.heap.size + 1 + 1, 2, none⟩ = some (.int .i64 m)) ?_ ?_
  · refine ⟨?_, ?_, ?_, ?_, ?_, ?_, ?_, ?_, ?_, ?_⟩
    · (repeat first | exact Below.refl _ _ | refine Below.drew ?_ | refine Below.alloc ?_ (by simp <;> omega) _ | refine Below.setCell ?_ (by simp <;> omega) _)
    all_goals go_simp
  rintro w0 ⟨hb0, c0, c1, c2, c3, c4, c5, c6, c7, c8⟩
  have s0 := cell_next c0
  have s1 := cell_next c1
  have s2 := cell_next c2
  have s3 := cell_next c3
  have s4 := cell_next c4
  have s5 := cell_next c5
  have s6 := cell_next c6
  have s7 := cell_next c7
  have s8 := cell_next c8
  clear c0 c1 c2 c3 c4 c5 c6 c7 c8
  have B0 := Below.refl w0.heap.size w0
  by_cases hu : u.size ≤ 300
  · by_cases hv : v.size ≤ 300
    · have hx : 300 < x.size := by omega
      clear h
      go_wp2_with (first
        | (go_at_call 10; (with_reducible refine (small_yes _ _ _ _ hu).mono ?_); rintro e w1 ⟨rfl, hb1⟩; have B1 := bnext B0 hb1)
        | (go_at_call 10; (with_reducible refine (small_yes _ _ _ _ hv).mono ?_); rintro e w2 ⟨rfl, hb2⟩; have B2 := bnext B1 hb2)
        | (go_at_call 10; (with_reducible refine (small_no _ _ _ _ mx hx).mono ?_); rintro e w3 ⟨rfl, hb3⟩; have B3 := bnext B2 hb3)
        | (go_at_call 11; (with_reducible refine (awake_any _).mono ?_); rintro e w4 ⟨rfl, hb4⟩; have B4 := bnext B3 hb4))
      go_ret
      exact ⟨rfl, hb0.trans (B4.mono hb0.size)⟩
    · have hv : 300 < v.size := by omega
      clear h
      go_wp2_with (first
        | (go_at_call 10; (with_reducible refine (small_yes _ _ _ _ hu).mono ?_); rintro e w1 ⟨rfl, hb1⟩; have B1 := bnext B0 hb1)
        | (go_at_call 10; (with_reducible refine (small_no _ _ _ _ mv hv).mono ?_); rintro e w2 ⟨rfl, hb2⟩; have B2 := bnext B1 hb2)
        | (go_at_call 11; (with_reducible refine (awake_any _).mono ?_); rintro e w4 ⟨rfl, hb4⟩; have B4 := bnext B2 hb4))
      go_ret
      exact ⟨rfl, hb0.trans (B4.mono hb0.size)⟩
  · have hu : 300 < u.size := by omega
    clear h
    go_wp2_with (first
      | (go_at_call 10; (with_reducible refine (small_no _ _ _ _ mu hu).mono ?_); rintro e w1 ⟨rfl, hb1⟩; have B1 := bnext B0 hb1)
      | (go_at_call 11; (with_reducible refine (awake_any _).mono ?_); rintro e w4 ⟨rfl, hb4⟩; have B4 := bnext B1 hb4))
    go_ret
    exact ⟨rfl, hb0.trans (B4.mono hb0.size)⟩
end Go.Proofs.Ytpnfpgjmpcnnnaa
