/- find, Len, tell. -/
import Derived.Test.YthpafhimmhacfaaSkC
namespace Go.Proofs.Ythpafhimmhacfaa
open Go.RowKit
set_option linter.unusedVariables false
set_option linter.unusedSimpArgs false

set_option maxRecDepth 100000 in
set_option maxHeartbeats 2000000 in
theorem find_ii {w : World} {B p : Nat} {v : Value} {T : List (SE Int)} (h : SK 71 74 (.int .i64) w B p v T) (hr : TRise ilt T) (hl : T.length ≤ 1000000) (hht : ∀ j (hj : j < T.length), 0 < T[j].ht) (k : Int) (c : Nat) (hc : CutAt ilt T k c) (R : Nat)
    (hR : (∃ hlt : c < T.length, T[c].key = k ∧ R = T[c].id) ∨ (R = 0 ∧ ∀ hlt : c < T.length, T[c].key ≠ k)) :
    Calls Try.prog 42 #[.pointer (some ⟨p, 0, none⟩), .int .i64 k] w fun e w' => e = .returned (.int .i64 (R : Nat)) ∧ Below w.heap.size w w' := by
  have hce := ceil_ii h hr hl hht k c hc
  obtain ⟨h0, hh0, hid0⟩ := level_room h
  by_cases hlt : c < T.length
  · rw [dif_pos hlt] at hce
    have hne : T[c].id ≠ 0 := fun e => by
      have := h.ids 0 c h0 hlt (by rw [hid0, e])
      have := hc.1
      omega
    obtain ⟨g, cv, hv, hc1, hc2, hid, k0, d0, d1, d2, dn⟩ := h.node c hlt
    have Hce := Lib.hid hce
    have s0 := cell_next k0
    have s1 := cell_next d0
    have hn1 : ((T[c].id : Int) != 0) = true := by rw [bne_iff_ne]; omega
    have hn2 : ((T[c].id : Int) == 0) = false := by rw [beq_eq_false_iff_ne]; omega
    unfold maxLen at hc2
    have HR := Lib.hid hR
    clear hce hR hc dn d1 d2 d0 k0 hr hne
    by_cases hk : T[c].key = k
    · have hRe : R = T[c].id := by
        rcases HR.out with ⟨_, _, h3⟩ | ⟨_, h2⟩
        · exact h3
        · exact absurd hk (h2 hlt)
      subst hRe
      have hk2 : (T[c].key == k) = true := by rw [beq_iff_eq]; exact hk
      clear hk
      go_enter Try.func42, Try.ntmps42
      go_wp2_with fail; (with_reducible refine (Hce.out).mono ?_); rintro e w1 ⟨rfl, hb1⟩
      have e0 := s0 _ hb1
      have e1 := s1 _ hb1
      go_wp2
      go_ret
      exact ⟨rfl, hb1⟩
    · have hRe : R = 0 := by
        rcases HR.out with ⟨_, h2, _⟩ | ⟨h1, _⟩
        · exact absurd h2 hk
        · exact h1
      subst hRe
      have hk2 : (T[c].key == k) = false := by rw [beq_eq_false_iff_ne]; exact hk
      clear hk
      go_enter Try.func42, Try.ntmps42
      go_wp2_with fail; (with_reducible refine (Hce.out).mono ?_); rintro e w1 ⟨rfl, hb1⟩
      have e0 := s0 _ hb1
      have e1 := s1 _ hb1
      go_wp2
      go_ret
      exact ⟨rfl, hb1⟩
  · rw [dif_neg hlt] at hce
    have Hce := Lib.hid hce
    obtain rfl : R = 0 := by
      rcases hR with ⟨h1, _⟩ | ⟨h1, _⟩
      · exact absurd h1 hlt
      · exact h1
    clear hce hR hc hr
    go_enter Try.func42, Try.ntmps42
    go_wp2_with fail; (with_reducible refine (Hce.out).mono ?_); rintro e w1 ⟨rfl, hb1⟩
    go_wp2
    go_ret
    exact ⟨rfl, hb1⟩
set_option maxHeartbeats 1000000 in
theorem sklen_ii {w : World} {B p : Nat} {v : Value} {T : List (SE Int)} (h : SK 71 74 (.int .i64) w B p v T) (hl : T.length ≤ 1000000) :
    Calls Try.prog 23 #[.pointer (some ⟨p, 0, none⟩)] w fun e w' => e = .returned (.int .i64 ((T.length : Int) - 1)) ∧ w = w' := by
  obtain ⟨h0, hh0, hid0⟩ := level_room h
  obtain ⟨g, cv, hv, hc1, hc2, hid, k0, d0, d1, d2, dn⟩ := h.node 0 h0
  clear h d0 d1 d2 dn
  go_enter Try.func23, Try.ntmps23
  go_wp2
  go_ret
  exact ⟨rfl, rfl⟩
set_option maxHeartbeats 1000000 in
theorem tell_ii {w : World} {B p : Nat} {v : Value} {T : List (SE Int)} (h : SK 71 74 (.int .i64) w B p v T) (hl : T.length ≤ 1000000) (i : Nat) (hi : i < T.length) (y : Int) (hy : T[i].val = .int .i64 y) (z : Bool) (hz : ((T[i].id : Int) != 0) = z) :
    Calls Try.prog 44 #[.pointer (some ⟨p, 0, none⟩), .int .i64 (T[i].id : Nat)] w fun e w' => e = .returned (.tuple #[.int .i64 T[i].key, .int .i64 y, .bool z]) ∧ Below w.heap.size w w' := by
  obtain ⟨g, cv, hv, hc1, hc2, hid, k0, d0, d1, d2, dn⟩ := h.node i hi
  rw [hy] at d1
  have hg := World.block_lt_of_cell? w _ d0
  have hp := World.block_lt_of_cell? w _ k0
  unfold maxLen at hc2
  clear h dn hy
  generalize T[i].key = kk at *
  generalize T[i].id = nn at *
  generalize T[i].blk = bk at *
  generalize T[i].ht = th at *
  go_enter Try.func44, Try.ntmps44
  go_upto_region 2 with (fail)
  refine gen_wp (fun w' => w'.cell? ⟨w.heap.size, 0, none⟩ = some (.int .i64 kk) ∧ w'.cell? ⟨w.heap.size, 1, none⟩ = some (.int .i64 y) ∧ Below w.heap.size w w') ?_ ?_
  · refine ⟨?_, ?_, ?_⟩
    · go_simp
    · go_simp
    · (repeat first | exact Below.refl _ _ | refine Below.drew ?_ | refine Below.alloc ?_ (by simp <;> omega) _ | refine Below.setCell ?_ (by simp <;> omega) _)
  rintro w1 ⟨q0, q1, hb1⟩
  go_quiet (fail)
  go_wp2
  go_ret3
  exact ⟨rfl, below_drewN hb1 _⟩
end Go.Proofs.Ythpafhimmhacfaa
