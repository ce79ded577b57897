/- The walk of IkeySeeks: what is sought stands ahead of just those of a user's keys that are at most so new. -/
import Derived.Test.YtpnfpgjmpcnnnaaRef03
import Derived.Test.YtpnfpgjmpcnnnaaIkThree
namespace Go.Proofs.Ytpnfpgjmpcnnnaa
open Go.RowKit

theorem seek_cmp (u : ByteArray) (s k a : Int) (h1 : 1 ≤ k) (h2 : k ≤ 3) : decide (kcmp u a 3 u s k ≤ 0) = decide (s ≤ a) := by
  unfold kcmp
  rw [cmpB_refl]
  rw [Bool.eq_iff_iff, decide_eq_true_iff, decide_eq_true_iff]
  unfold or3 icmp
  (repeat' split) <;> omega

set_option maxRecDepth 100000 in
set_option maxHeartbeats 2000000 in
theorem seeks_walk (u : ByteArray) (s k a : Int) (w : World) (mu : u.size ≤ maxLen) :
    Calls Try.prog 4 #[.agg #[.string u, .int .i64 s, .int .i64 k], .int .i64 a] w fun e w' => e = .returned (.bool true) ∧ Below w.heap.size w w' := by
  go_enter Try.func4, Try.ntmps4
  go_upto_region 1 with (fail)
  refine gen_wp (fun w' => Below w.heap.size w w' ∧ w'.cell? ⟨w.heap.size, 0, none⟩ = some (.string u) ∧ w'.cell? ⟨w.heap.size, 1, none⟩ = some (.int .i64 s) ∧ w'.cell? ⟨w.heap.size, 2, none⟩ = some (.int .i64 k)) ?_ ?_
  · refine ⟨?_, ?_, ?_, ?_⟩
    · (repeat first | exact Below.refl _ _ | refine Below.drew ?_ | refine Below.alloc ?_ (by simp <;> omega) _ | refine Below.setCell ?_ (by simp <;> omega) _)
    all_goals go_simp
  rintro w0 ⟨hb0, c0, c1, c2⟩
  have s0 := cell_next c0
  have s1 := cell_next c1
  have s2 := cell_next c2
  clear c0 c1 c2
  have B0 := Below.refl w0.heap.size w0
  by_cases hu : u.size ≤ 300
  · by_cases hk : k < 1
    · go_wp2_with (first
        | (go_at_call 10; (with_reducible refine (small_yes _ _ _ _ hu).mono ?_); rintro e w1 ⟨rfl, hb1⟩; have B1 := bnext B0 hb1)
        | (go_at_call 11; (with_reducible refine (awake_any _).mono ?_); rintro e w4 ⟨rfl, hb4⟩; have B4 := bnext B1 hb4))
      go_ret
      exact ⟨rfl, hb0.trans (B4.mono hb0.size)⟩
    · by_cases hk3 : 3 < k
      · have hk1 : 1 ≤ k := by omega
        clear hk
        go_wp2_with (first
          | (go_at_call 10; (with_reducible refine (small_yes _ _ _ _ hu).mono ?_); rintro e w1 ⟨rfl, hb1⟩; have B1 := bnext B0 hb1)
          | (go_at_call 11; (with_reducible refine (awake_any _).mono ?_); rintro e w4 ⟨rfl, hb4⟩; have B4 := bnext B1 hb4))
        go_ret
        exact ⟨rfl, hb0.trans (B4.mono hb0.size)⟩
      · have hk1 : 1 ≤ k := by omega
        have hk2 : k ≤ 3 := by omega
        clear hk hk3
        obtain ⟨c, hc⟩ : ∃ c, kcmp u a 3 u s k = c := ⟨_, rfl⟩
        obtain ⟨z, hz⟩ : ∃ z, decide (s ≤ a) = z := ⟨_, rfl⟩
        have hz2 := seek_cmp u s k a hk1 hk2
        rw [hc, hz] at hz2
        have Hc := Lib.hid hc
        clear hc
        go_upto_region 4 with (first
          | (go_at_call 10; (with_reducible refine (small_yes _ _ _ _ hu).mono ?_); rintro e w1 ⟨rfl, hb1⟩; have B1 := bnext B0 hb1)
          | (go_at_call 13; (with_reducible refine (seek_any _ _ _).mono ?_); rintro e w2 ⟨rfl, hb2⟩; have B2 := bnext B1 hb2))
        refine gen_wp (fun w' => Below w0.heap.size w0 w' ∧ w'.cell? ⟨w2.heap.size, 0, none⟩ = some (.string u) ∧ w'.cell? ⟨w2.heap.size, 1, none⟩ = some (.int .i64 a) ∧ w'.cell? ⟨w2.heap.size, 2, none⟩ = some (.int .i64 3)) ?_ ?_
        · refine ⟨?_, ?_, ?_, ?_⟩
          · exact (B2.alloc B2.size _)
          all_goals go_simp
        rintro w3 ⟨B3, c3, c4, c5⟩
        have s3 := fun d os => cell_regrown c3 d os
        have s4 := fun d os => cell_regrown c4 d os
        have s5 := fun d os => cell_regrown c5 d os
        have Bg := bnext_grow B3
        clear c3 c4 c5
        refine wp_region_quiet_below (by kernel_rfl) (by kernel_rfl) ?_; (repeat (go_big_quiet_step ((first
          | (go_at_call 12; (with_reducible refine Calls.regrown_of (keycmp' u u a s 3 k _ c Hc.out)))
          | (go_at_call 14; (with_reducible refine Calls.regrown_of (sees_any u s k a _)))
          | (go_at_call 11; (with_reducible refine Calls.regrown_of (awake_any _))))))); refine wpQuiet_nil ?_; rintro _ ⟨pq, rfl⟩
        go_wp2
        go_ret
        exact ⟨rfl, hb0.trans ((Bg _ _).mono hb0.size)⟩
  · have hu : 300 < u.size := by omega
    go_wp2_with (first
      | (go_at_call 10; (with_reducible refine (small_no _ _ _ _ mu hu).mono ?_); rintro e w1 ⟨rfl, hb1⟩; have B1 := bnext B0 hb1)
      | (go_at_call 11; (with_reducible refine (awake_any _).mono ?_); rintro e w4 ⟨rfl, hb4⟩; have B4 := bnext B1 hb4))
    go_ret
    exact ⟨rfl, hb0.trans (B4.mono hb0.size)⟩
end Go.Proofs.Ytpnfpgjmpcnnnaa
