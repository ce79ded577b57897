/- Put of a key that is there. -/
import Derived.Test.YthpafhimmhacfaaSkP2
import Derived.Test.YthpafhimmhacfaaSkP7
namespace Go.Proofs.Ythpafhimmhacfaa
open Go.RowKit
set_option linter.unusedVariables false
set_option linter.unusedSimpArgs false

set_option maxRecDepth 100000 in
set_option maxHeartbeats 2000000 in
theorem put_again_ii {w : World} {B p : Nat} {v : Value} {T : List (SE Int)} (h : SK 71 74 (.int .i64) w B p v T) (hr : TRise ilt T) (hl : T.length ≤ 1000000) (hht : ∀ j (hj : j < T.length), 0 < T[j].ht) (k y0 y ht : Int) (h1 : 1 ≤ ht) (h2 : ht ≤ 12) (c : Nat) (hc : CutAt ilt T k c) (hlt : c < T.length) (hk : T[c].key = k) (hy0 : T[c].val = .int .i64 y0) (hB : B ≤ w.heap.size) :
    Calls Try.prog 13 #[.pointer (some ⟨p, 0, none⟩), .int .i64 k, .int .i64 y, .int .i64 ht] w fun e w' => e = .returned (.tuple #[.bool false, .int .i64 0]) ∧ SK 71 74 (.int .i64) w' B p v (T.modify c (setV · (.int .i64 y))) ∧ Chg (Fp p v T) w w' := by
  have hfi := find_ii h hr hl hht k c hc T[c].id (.inl ⟨hlt, hk, rfl⟩)
  obtain ⟨h0, hh0, hid0⟩ := level_room h
  have hne : T[c].id ≠ 0 := fun e => by
    have := h.ids 0 c h0 hlt (by rw [hid0, e])
    have := hc.1
    omega
  obtain ⟨g, cv, rfl, hc1, hc2, hid, k0, d0, d1, d2, dn⟩ := h.node c hlt
  rw [hy0] at d1
  have hfz : ∀ W, Below w.heap.size w W → W.frozen? ⟨g, T[c].id * 3 + 1, none⟩ = false := fun W hB => by
    obtain ⟨xs, hrow, _⟩ := (h.below hB).row
    exact World.ownsRow.frozenAt hrow _
  have Hset : Hid (∀ W, Below w.heap.size w W → SK 71 74 (.int .i64) (W.setCell ⟨g, T[c].id * 3 + 1, none⟩ (.int .i64 y)) B p (.slice (some ⟨g, 0, none⟩) T.length cv) (T.modify c (setV · (.int .i64 y)))) := Lib.hid fun W hB => (h.below hB).setVal (by decide) (by decide) c hlt _
  have Hfz := Lib.hid hfz
  have Hfi := Lib.hid hfi
  have s0 := cell_next k0
  have s1 := cell_next d1
  have hn1 : ((T[c].id : Int) != 0) = true := by rw [bne_iff_ne]; omega
  have hn2 : ((T[c].id : Int) == 0) = false := by rw [beq_eq_false_iff_ne]; omega
  unfold maxLen at hc2
  clear hfi hne hc hr hk d0 d1 dn k0 d2 hfz h hy0
  generalize T[c].id = n at *
  go_enter Try.func13, Try.ntmps13
  go_wp2_with fail; (with_reducible refine (Hfi.out).mono ?_); rintro e w1 ⟨rfl, hb1⟩
  have e0 := s0 _ hb1
  have e1 := s1 _ hb1
  have ef := Hfz.out _ hb1
  have HB1 := Lib.hid hb1
  clear hb1
  go_wp2
  go_ret2
  exact ⟨rfl, Hset.out _ HB1.out, (Chg.of_below HB1.out).trans2 (Chg.set _ g _ _) (fun x _ hx => .inr (.inl (by rw [hx]; rfl)))⟩
end Go.Proofs.Ythpafhimmhacfaa
