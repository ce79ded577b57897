/- Next. -/
import Derived.Test.YthpafhimmhacfaaSkF
import Derived.Test.YthpafhimmhacfaaSkK
namespace Go.Proofs.Ythpafhimmhacfaa
open Go.RowKit
set_option linter.unusedVariables false
set_option linter.unusedSimpArgs false

set_option maxRecDepth 100000 in
set_option maxHeartbeats 2000000 in
theorem Next_ii {w : World} {B p : Nat} {v : Value} {T : List (SE Int)} (h : SK 71 74 (.int .i64) w B p v T) (hr : TRise ilt T) (hl : T.length ≤ 1000000) (hht : ∀ j (hj : j < T.length), 0 < T[j].ht) (k : Int) (c : Nat) (hc : CutAt ilt T k c) (x : Nat) (hx : (∃ h : c < T.length, T[c].key = k ∧ x = c + 1) ∨ ((∀ h : c < T.length, T[c].key ≠ k) ∧ x = c)) (rk ry : Int) (rz : Bool) (hR : TellIs T (if x < T.length then x else 0) rk ry rz) :
    Calls Try.prog 17 #[.pointer (some ⟨p, 0, none⟩), .int .i64 k] w fun e w' => e = .returned (.tuple #[.int .i64 rk, .int .i64 ry, .bool rz]) ∧ Below w.heap.size w w' := by
  have hce := ceil_ii h hr hl hht k c hc
  obtain ⟨h0, hh0, hid0⟩ := level_room h
  obtain ⟨hi, h1, h2, h3⟩ := hR
  have hte := fun W (hB : Below w.heap.size w W) => tell_ii (h.below hB) hl _ hi ry h2 rz h3
  have e : (T[if x < T.length then x else 0]'hi).id = idAt T x := by
    by_cases hlt : x < T.length
    · rw [idAt_lt hlt]; simp only [if_pos hlt]
    · have e0 : idAt T x = 0 := dif_neg hlt
      rw [e0]; simp only [if_neg hlt]; exact hid0
  rw [h1, e] at hte
  have Hte := Lib.hid hte
  clear hte h1 h2 h3 e hi
  by_cases hlt : c < T.length
  · rw [dif_pos hlt] at hce
    have hne : T[c].id ≠ 0 := fun e => by
      have := h.ids 0 c h0 hlt (by rw [hid0, e])
      have := hc.1
      omega
    obtain ⟨g, cv, hv, hc1, hc2, hid, k0, d0, d1, d2, dn⟩ := h.node c hlt
    have hd := dn 0 (hht c hlt)
    rw [next_idAt (c + 1) hht] at hd
    have Hce := Lib.hid hce
    have s0 := cell_next k0
    have s1 := cell_next d0
    have s2 := cell_next d2
    have s3 := cell_next hd
    have hn1 : ((T[c].id : Int) != 0) = true := by rw [bne_iff_ne]; omega
    have hn2 : ((T[c].id : Int) == 0) = false := by rw [beq_eq_false_iff_ne]; omega
    have i1 : (0 : Int) ≤ (T[c].id : Nat) := by omega
    have i2 : ((T[c].id : Nat) : Int) < (T.length : Int) := by omega
    have i3 : (0 : Int) < (T[c].ht : Nat) := by have := hht c hlt; omega
    unfold maxLen at hc2
    clear hce hc dn d1 d2 d0 k0 hr hne hd
    by_cases hk : T[c].key = k
    · have hxe : x = c + 1 := by
        rcases hx with ⟨_, _, h⟩ | ⟨h, _⟩
        · exact h
        · exact absurd hk (h hlt)
      subst hxe
      have hk2 : (T[c].key == k) = true := by rw [beq_iff_eq]; exact hk
      clear hk hx h
      go_enter Try.func17, Try.ntmps17
      go_wp2_with fail; (with_reducible refine (Hce.out).mono ?_); rintro e w1 ⟨rfl, hb1⟩
      have e0 := s0 _ hb1
      have e1 := s1 _ hb1
      have e2 := s2 _ hb1
      have e3 := s3 _ hb1
      go_wp2_with fail; (with_reducible refine (Hte.out _ hb1).mono ?_); rintro e w2 ⟨rfl, hb2⟩
      go_wp2
      go_ret3
      exact ⟨rfl, bnext hb1 hb2⟩
    · have hxe : x = c := by
        rcases hx with ⟨_, h, _⟩ | ⟨_, h⟩
        · exact absurd h hk
        · exact h
      subst hxe
      rw [idAt_lt hlt] at Hte
      have hk2 : (T[x].key == k) = false := by rw [beq_eq_false_iff_ne]; exact hk
      clear hk hx h
      go_enter Try.func17, Try.ntmps17
      go_wp2_with fail; (with_reducible refine (Hce.out).mono ?_); rintro e w1 ⟨rfl, hb1⟩
      have e0 := s0 _ hb1
      have e1 := s1 _ hb1
      go_wp2_with fail; (with_reducible refine (Hte.out _ hb1).mono ?_); rintro e w2 ⟨rfl, hb2⟩
      go_wp2
      go_ret3
      exact ⟨rfl, bnext hb1 hb2⟩
  · rw [dif_neg hlt] at hce
    have hxe : x = c := by
      rcases hx with ⟨h, _⟩ | ⟨_, h⟩
      · exact absurd h hlt
      · exact h
    subst hxe
    rw [show idAt T x = 0 from dif_neg hlt, show ((0 : Nat) : Int) = 0 from rfl] at Hte
    have Hce := Lib.hid hce
    clear hce hc hr hx h
    go_enter Try.func17, Try.ntmps17
    go_wp2_with fail; (with_reducible refine (Hce.out).mono ?_); rintro e w1 ⟨rfl, hb1⟩
    go_wp2_with fail; (with_reducible refine (Hte.out _ hb1).mono ?_); rintro e w2 ⟨rfl, hb2⟩
    go_wp2
    go_ret3
    exact ⟨rfl, bnext hb1 hb2⟩
end Go.Proofs.Ythpafhimmhacfaa
