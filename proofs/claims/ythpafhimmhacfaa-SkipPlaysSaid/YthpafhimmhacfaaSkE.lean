/- Ceil, Height. -/
import Derived.Test.YthpafhimmhacfaaSkD
namespace Go.Proofs.Ythpafhimmhacfaa
open Go.RowKit
set_option linter.unusedVariables false
set_option linter.unusedSimpArgs false

/-- node i, as it is told -/
def TellIs (T : List (SE Int)) (i : Nat) (k y : Int) (z : Bool) : Prop := ∃ hi : i < T.length, T[i].key = k ∧ T[i].val = .int .i64 y ∧ ((T[i].id : Int) != 0) = z
set_option maxHeartbeats 2000000 in
theorem Ceil_ii {w : World} {B p : Nat} {v : Value} {T : List (SE Int)} (h : SK 71 74 (.int .i64) w B p v T) (hr : TRise ilt T) (hl : T.length ≤ 1000000) (hht : ∀ j (hj : j < T.length), 0 < T[j].ht) (k : Int) (c : Nat) (hc : CutAt ilt T k c) (rk ry : Int) (rz : Bool) (hR : TellIs T (if c < T.length then c else 0) rk ry rz) :
    Calls Try.prog 15 #[.pointer (some ⟨p, 0, none⟩), .int .i64 k] w fun e w' => e = .returned (.tuple #[.int .i64 rk, .int .i64 ry, .bool rz]) ∧ Below w.heap.size w w' := by
  have hce := ceil_ii h hr hl hht k c hc
  obtain ⟨h0, hh0, hid0⟩ := level_room h
  obtain ⟨hi, h1, h2, h3⟩ := hR
  have e : (if h : c < T.length then T[c].id else 0 : Nat) = (T[if c < T.length then c else 0]'hi).id := by
    by_cases hlt : c < T.length
    · rw [dif_pos hlt]; simp only [if_pos hlt]
    · rw [dif_neg hlt]; simp only [if_neg hlt]; exact hid0.symm
  rw [e] at hce
  have hte := fun W (hB : Below w.heap.size w W) => tell_ii (h.below hB) hl _ hi ry h2 rz h3
  rw [h1] at hte
  have Hce := Lib.hid hce
  have Hte := Lib.hid hte
  clear hce hte h h1 h2 h3 hc hr e
  generalize (T[if c < T.length then c else 0]'hi).id = n at *
  go_enter Try.func15, Try.ntmps15
  go_wp2_with fail; (with_reducible refine (Hce.out).mono ?_); rintro e w1 ⟨rfl, hb1⟩
  go_wp2_with fail; (with_reducible refine (Hte.out _ hb1).mono ?_); rintro e w2 ⟨rfl, hb2⟩
  go_wp2
  go_ret3
  exact ⟨rfl, bnext hb1 hb2⟩
set_option maxHeartbeats 2000000 in
theorem Height_ii {w : World} {B p : Nat} {v : Value} {T : List (SE Int)} (h : SK 71 74 (.int .i64) w B p v T) (hr : TRise ilt T) (hl : T.length ≤ 1000000) (hht : ∀ j (hj : j < T.length), 0 < T[j].ht) (k : Int) (c : Nat) (hc : CutAt ilt T k c) (hlt : c < T.length) (hk : T[c].key = k) :
    Calls Try.prog 24 #[.pointer (some ⟨p, 0, none⟩), .int .i64 k] w fun e w' => e = .returned (.int .i64 (T[c].ht : Nat)) ∧ Below w.heap.size w w' := by
  have hfi := find_ii h hr hl hht k c hc T[c].id (.inl ⟨hlt, hk, rfl⟩)
  obtain ⟨h0, hh0, hid0⟩ := level_room h
  have hne : T[c].id ≠ 0 := fun e => by
    have := h.ids 0 c h0 hlt (by rw [hid0, e])
    have := hc.1
    omega
  obtain ⟨g, cv, hv, hc1, hc2, hid, k0, d0, d1, d2, dn⟩ := h.node c hlt
  have Hfi := Lib.hid hfi
  have s0 := cell_next k0
  have s2 := cell_next d2
  have hn1 : ((T[c].id : Int) != 0) = true := by rw [bne_iff_ne]; omega
  have hn2 : ((T[c].id : Int) == 0) = false := by rw [beq_eq_false_iff_ne]; omega
  unfold maxLen at hc2
  clear hfi hne hc hr hk d0 d1 dn k0 d2
  go_enter Try.func24, Try.ntmps24
  go_wp2_with fail; (with_reducible refine (Hfi.out).mono ?_); rintro e w1 ⟨rfl, hb1⟩
  have e0 := s0 _ hb1
  have e2 := s2 _ hb1
  go_wp2
  go_ret
  exact ⟨rfl, hb1⟩
end Go.Proofs.Ythpafhimmhacfaa
