/- The list at [int, bool], part 3 (printed by inst.py). -/
import Derived.RangeFuncBox
import Derived.RangeFuncNested
import Derived.RangeFuncBound
import Derived.RangeFuncCalls
import Derived.RangeFuncLeaves
import Derived.Shelf.Abstract
import Derived.WalkKit
import Derived.OwnWalkIn
import Derived.TacticsInMore
import Derived.LoopNIn
import Derived.LoopIn
import Derived.Maps.AppendAt
import Derived.Test.YthpafhimmhacfaaSkib1
namespace Go.Proofs.Ythpafhimmhacfaa.ib
open Go.RowKit Go.Shelf
set_option linter.unusedVariables false
set_option linter.unusedSimpArgs false
set_option linter.unusedSectionVars false
attribute [local go_sem] Oper.semAt_some
set_option maxRecDepth 100000 in
set_option maxHeartbeats 2000000 in
theorem all1_in_ii (F : Fence) (n : Nat) (h8 : F.fn 59) (hro : F.round = none) (hn : 1 ≤ n) (l b1 n₀ p B : Nat) (v : Value) (T : List (SE Int)) (hl : T.length ≤ 1000000) (hht : ∀ j (hj : j < T.length), 0 < T[j].ht) (hlt : ∀ k, Fp p v T k → k < n₀) (J Jx : List Int → World → Prop)
    (hY : ∀ (pre : List Int) (x : Int) (W : World), J pre W → pre.length + 1 < T.length → YieldAt F (n - 1) Try.prog l #[.int .i64 x] W fun e W' =>
      (e = .returned (.bool true) ∧ J (pre ++ [x]) W' ∧ KpS n₀ b1 W W') ∨ (e = .returned (.bool false) ∧ Jx (pre ++ [x]) W'))
    (W : World) (hb1 : W.cell? ⟨b1, 0, none⟩ = some (.pointer (some ⟨p, 0, none⟩))) (hS : SK 93 96 (.int .i64) W B p v T) (h0 : J [] W) :
    CallsIn F n Try.prog 59 #[.func (.yield l) #[] #[], .pointer (some ⟨b1, 0, none⟩)] W fun e W' => (∃ v, e = .returned v) ∧
      ((∃ ys, ys = keysT T T.length ∧ J ys W') ∨ (∃ pre, (∃ k, k ≤ T.length ∧ pre = keysT T k) ∧ Jx pre W')) := by
  obtain ⟨hp0, hh0, hid0⟩ := level_room hS
  refine callsIn_of_wp Try.func59 rfl h8 ?_ hro
  simp only [Try.ntmps59, List.size_toArray, List.length_cons, List.length_nil, Nat.reduceAdd, Nat.reduceSub, Array.replicate_succ, Array.replicate_zero, List.push_toArray, List.append_toArray, List.nil_append, List.cons_append]
  obtain ⟨g, cv, hv, hc1, hc2, hid, k0, d0, d1, d2, dn⟩ := hS.node 0 hp0
  have hd := dn 0 (hht 0 hp0)
  rw [Nat.zero_add, next_idAt 1 hht] at hd
  rw [hid0] at d2
  unfold maxLen at hc2
  have htI : (0 : Int) < (T[0].ht : Nat) := by have := hht 0 hp0; omega
  have hlI : (0 : Int) < (T.length : Nat) := by omega
  have HS := Lib.hid hS
  clear dn d0 d1 hid hS
  gi_wp2
  gi_loopw [3] (fun u wr => ∃ i : Nat, 1 ≤ i ∧ i ≤ T.length ∧ u = .int .i64 ((idAt T i : Nat) : Int) ∧ J (keysT T i) wr ∧ KpS n₀ b1 W wr)
    (fun u _ => T.length - plc T (intOf u).toNat)
  case atStart => exact ⟨1, Nat.le_refl _, by omega, rfl, by rw [keysT_one]; exact h0, Below.refl _ _, fun _ h => h⟩
  case round =>
    obtain ⟨i, h1i, hi, rfl, hJs, hnx⟩ := hrel
    have c1 := hnx.2 _ hb1
    have hSr := HS.out.chg (chg_of_below hnx.1) (fun k hk e => by have := hlt k hk; omega)
    clear hd d2 k0 htI
    by_cases hlt' : i < T.length
    · have hne : T[i].id ≠ 0 := fun e => by
        have := HS.out.ids 0 i hp0 hlt' (by rw [hid0, e])
        omega
      have hpa : plc T T[i].id = i := plc_at HS.out.ids i hlt' hne
      have hpn : plc T (idAt T (i + 1)) = i + 1 := by
        by_cases hx : i + 1 < T.length
        · rw [idAt_lt hx]
          exact plc_at HS.out.ids (i + 1) hx (fun e => by
            have := HS.out.ids 0 (i + 1) hp0 hx (by rw [hid0, e])
            omega)
        · have e : i + 1 = T.length := by omega
          rw [e, idAt_end, plc_zero]
      obtain ⟨g2, cv2, hv2, he1, he2, hid2, a0, b0, b1', b2, bn⟩ := hSr.node i hlt'
      have be := bn 0 (hht i hlt')
      rw [next_idAt (i + 1) hht] at be
      have hn1 : ((T[i].id : Int) != 0) = true := by rw [bne_iff_ne]; omega
      have hn2 : ((T[i].id : Int) == 0) = false := by rw [beq_eq_false_iff_ne]; omega
      have i1 : (0 : Int) ≤ (T[i].id : Nat) := by omega
      have i2 : ((T[i].id : Nat) : Int) < (T.length : Int) := by omega
      have i3 : (0 : Int) < (T[i].ht : Nat) := by have := hht i hlt'; omega
      obtain ⟨fn, tmps, assign, body, hy, hR2⟩ := hY _ T[i].key wr hJs (by rw [keysT_len _ _ hi]; omega)
      have hks := keysT_succ T i h1i hlt'
      unfold maxLen at he2
      rw [idAt_lt hlt']
      generalize hqq : idAt T (i + 1) = nx at *
      have Hks := Lib.hid hks
      have hms : T.length - plc T nx < T.length - plc T T[i].id := by omega
      have Hms := Lib.hid hms
      have Hqq := Lib.hid hqq
      clear bn hpa hpn b1' hks hms hqq hne
      gi_wp2
      refine hR2.mono ?_
      rintro e W3 (⟨rfl, hJ3, hk3⟩ | ⟨rfl, hJx3⟩)
      · have c3 := hk3.2 _ c1
        have hS3 := hSr.chg (chg_of_below hk3.1) (fun k hk e => by have := hlt k hk; omega)
        obtain ⟨g3, cv3, hv3, hf1, hf2, hid3, r0, r1, r2, r3, rn⟩ := hS3.node i hlt'
        have re := rn 0 (by omega)
        rw [next_idAt (i + 1) hht, Hqq.out] at re
        unfold maxLen at hf2
        clear rn r1 r2
        gi_wp2
        exact ⟨⟨i + 1, by omega, by omega, by rw [Hqq.out], by rw [Hks.out]; exact hJ3, hnx.trans hk3⟩, by have := Hms.out; simpa [intOf] using this⟩
      · gi_wp2
        refine bodyPost_ret (results_none rfl _ _ _) rfl ?_
        exact ⟨⟨_, rfl⟩, .inr ⟨_, ⟨i + 1, by omega, by rw [Hks.out]⟩, hJx3⟩⟩
    · obtain rfl : i = T.length := by omega
      rw [idAt_end]
      gi_wp2
      go_end0
      exact ⟨⟨_, rfl⟩, .inl ⟨_, rfl, hJs⟩⟩

set_option maxHeartbeats 1000000 in
theorem all_in_ii (F : Fence) (n : Nat) (h5 : F.fn 53) (hro : F.round = none) (p : Nat) (w : World) :
    CallsIn F n Try.prog 53 #[.pointer (some ⟨p, 0, none⟩)] w fun e w' => e = .returned (.func (.func 59) #[] #[.pointer (some ⟨w.heap.size, 0, none⟩)]) ∧ w' = w.alloc (.cells #[.pointer (some ⟨p, 0, none⟩)] 48) := by
  refine callsIn_of_wp Try.func53 rfl h5 ?_ hro
  simp only [Try.ntmps53, List.size_toArray, List.length_cons, List.length_nil, Nat.reduceAdd, Nat.reduceSub, Array.replicate_succ, Array.replicate_zero, List.push_toArray, List.append_toArray, List.nil_append, List.cons_append]
  gi_wp2
  go_ret
  exact ⟨rfl, rfl⟩

theorem all_stops_ii (F : Fence) (n : Nat) (h8 : F.fn 59) (hro : F.round = none) (hn : 1 ≤ n) (b1 n₀ p B : Nat) (v : Value) (T : List (SE Int)) (hl : T.length ≤ 1000000) (hht : ∀ j (hj : j < T.length), 0 < T[j].ht) (w : World) (hn₀ : n₀ ≤ w.heap.size) (hlt : ∀ k, Fp p v T k → k < n₀)
    (hb1 : w.cell? ⟨b1, 0, none⟩ = some (.pointer (some ⟨p, 0, none⟩))) (hS : SK 93 96 (.int .i64) w B p v T) :
    SeqStopsK F n Try.prog 59 #[.pointer (some ⟨b1, 0, none⟩)] (fun x : Int => #[Value.int .i64 x]) (KpS n₀ b1) (fun ys => ys = keysT T T.length)
      (fun pre => ∃ k, k ≤ T.length ∧ pre = keysT T k) (T.length - 1) w := fun l J Jx W hW _ _ hY h0 =>
  all1_in_ii F n h8 hro hn l b1 n₀ p B v T hl hht hlt J Jx (fun pre x W hJ hpl => hY pre x W hJ (by omega)) W (cell_next hb1 _ hW) (hS.below hW) h0

set_option maxRecDepth 100000 in
set_option maxHeartbeats 4000000 in
theorem keys_in_ii (F : Fence) (n : Nat) (h3 : F.fn 28) (h4 : F.fn 53) (h5 : F.fn 59) (hro : F.round = none) (hn : 3 ≤ n) {w : World} {B p : Nat} {v : Value} {T : List (SE Int)} (h : SK 93 96 (.int .i64) w B p v T) (hl : T.length ≤ 1000000) (hht : ∀ j (hj : j < T.length), 0 < T[j].ht) :
    CallsIn F n Try.prog 28 #[.pointer (some ⟨p, 0, none⟩)] w fun e W' => ∃ u, e = .returned u ∧ W'.ownsRow w.heap.size 3 1 u (keysT T T.length).length (evs (keysT T T.length)) ∧ Below w.heap.size w W' := by
  have h1 : 1 ≤ n := by omega
  obtain ⟨i0, hi, hz0, hz1, hz2⟩ := info_parts infoInt05
  refine callsIn_of_wp_marks Try.func28 rfl h3 ?_ hro
  simp only [Try.ntmps28, List.size_toArray, List.length_cons, List.length_nil, Nat.reduceAdd, Nat.reduceSub, Array.replicate_succ, Array.replicate_zero, List.push_toArray, List.append_toArray, List.nil_append, List.cons_append]
  gi_wp2_with (gi_at_call 53; refine (all_in_ii F (n - 1) h4 hro _ _).mono ?_; rintro e w' ⟨rfl, rfl⟩)
  have kO : ((w.alloc (.cells #[.slice none 0 0] 25)).alloc (.cells #[.pointer (some ⟨p, 0, none⟩)] 48)).heap[w.heap.size]? = some (.cells #[.slice none 0 0] 25 (0, 0)) := (Boxed.new w 25 (.slice none 0 0)).alloc _
  have k1 := (Boxed.new (w.alloc (.cells #[.slice none 0 0] 25)) 48 (.pointer (some ⟨p, 0, none⟩))).cell
  simp only [World.size_alloc] at k1
  have hB0 : Below w.heap.size w ((w.alloc (.cells #[.slice none 0 0] 25)).alloc (.cells #[.pointer (some ⟨p, 0, none⟩)] 48)) := ((Below.refl _ w).alloc (Nat.le_refl _) _).alloc (by simp) _
  have hsz : ((w.alloc (.cells #[.slice none 0 0] 25)).alloc (.cells #[.pointer (some ⟨p, 0, none⟩)] 48)).heap.size = w.heap.size + 2 := by simp
  generalize ((w.alloc (.cells #[.slice none 0 0] 25)).alloc (.cells #[.pointer (some ⟨p, 0, none⟩)] 48)) = W0 at *
  have hT := h.below hB0
  have hlt : ∀ k, Fp p v T k → k < w.heap.size := fun k hk => (h.fp_ge k hk).2
  have hkl := keysT_len T T.length (Nat.le_refl _)
  refine wpIn_rangeFunc_ownG hro h1 (gf := 59) (lb := #[.pointer (some ⟨w.heap.size + 1, 0, none⟩)]) rfl h5 (enters_of Try.func59 (by kernel_rfl) rfl)
    (all_stops_ii F (n - 1) h5 hro (by omega) (w.heap.size + 1) w.heap.size p B v T hl hht W0 (by omega) hlt k1 hT) KpS.trans (KpS.put (by omega)) (Below.refl _ _) (fun _ => rfl)
    (fun pre W => (pre.length ≤ T.length ∧ ∃ u, Boxed W w.heap.size 25 u ∧ W.ownsRow W0.heap.size 3 1 u pre.length (evs pre) ∧ True) ∧ Below w.heap.size w W ∧ W0.heap.size ≤ W.heap.size)
    (fun _ _ _ => False)
    ?own
    (fun _ _ _ _ _ hs _ _ => hs)
    ⟨⟨Nat.zero_le _, _, kO, World.ownsRow_nil _ _ _ _, trivial⟩, hB0, Nat.le_refl _⟩
    (fun x => { tmps := #[.pointer (some ⟨p, 0, none⟩), undef, .slice none 0 0, .pointer (some ⟨w.heap.size, 0, none⟩), .int .i64 x, .pointer (some ⟨p, 0, none⟩), .func (.func 59) #[] #[.pointer (some ⟨w.heap.size + 1, 0, none⟩)], .int .i64 x, undef, undef, undef, undef, undef], defers := [] }) ?assign ?body ?done ?stop
  case own =>
    exact OwnFrom.and (fun s A Bw row hs hg hr => ⟨hs.1, holdsRow_own W0.heap.size w.heap.size 25 3 1 (fun (pre : List Int) => pre.length) evs (fun _ _ => True) s A Bw row hs.2 hg (fun r e => (hr r e).2)⟩) (OwnFrom.and (ownFrom_below (Nat.le_refl _) (by omega)) (fun s A Bw row hs hg hr => Nat.le_trans hs hg.size))
  case assign =>
    intro l x W K hK
    gi_wp2
    exact hK
  case body =>
    rintro l pre x W ⟨⟨hpl, u, hv, hrow, _⟩, hB, hz⟩ hlt
    have hc := hv.cell
    have hlt' : pre.length < T.length - 1 := hlt
    gi_wp2_with (gi_at_builtin; refine wpListIn_append_own _ rfl _ _ 25 rfl W0.heap.size 3 i0 (.int .i64 0) 1 8 Try.underlying25 hi hz0 hz1 hz2 rfl (by decide) u pre.length (evs pre) rfl (hrow.alloc _) ⟨W.heap.size, 0, none⟩ 1 1 [.int .i64 x] rfl rfl (cell_one_new _ _ _) (by simp [Value.oneCell']) (by unfold maxLen; omega) (by omega) (by simp; omega) ?_; intro v' w1 hown' hgrow _; obtain ⟨g', cap', rfl⟩ := ownsRow_succ hown'; obtain ⟨hv1, hv2, hr2, hk2, hb2⟩ := hv.appended (by decide) (row_mono hrow (show w.heap.size ≤ W0.heap.size by omega)) hB.size (Nat.le_refl _) (row_mono hown' (show w.heap.size ≤ W0.heap.size by omega)) hgrow; have hc1 := hv1.cell; have hf1 := hv1.frozen)
    have e1 : w1.heap[w.heap.size + 1]? = (W.alloc (.cells #[.int .i64 x] 3)).heap[w.heap.size + 1]? := hgrow.block _ (by simp; omega) (fun e => by have := (World.ownsRow.lt hrow _ e.symm).1; omega)
    have e2 : (w1.setCell ⟨w.heap.size, 0, none⟩ (.slice (some ⟨g', 0, none⟩) (pre.length + 1) cap')).heap[w.heap.size + 1]? = W.heap[w.heap.size + 1]? := (Below.heap_setCell _ _ _ _ (show w.heap.size + 1 ≠ w.heap.size by omega)).trans (e1.trans (Below.heap_alloc _ _ _ (by omega)))
    refine ⟨hk2.from _, ⟨hb2, fun vv hvv => by rw [cell_blk05 e2]; exact hvv⟩, ⟨by rw [List.length_append]; exact (show pre.length + 1 ≤ T.length by omega), _, hv2, ?_, trivial⟩, hB.trans hb2, ?_⟩
    · rw [evs_snoc, List.length_append]
      exact hown'.kept (grownBy_setCell' w1 w.heap.size _) (.inr (fun e => by have := (World.ownsRow.lt hown' _ e).1; omega))
    · have h5 := hgrow.size
      have h6 : (w1.setCell ⟨w.heap.size, 0, none⟩ (.slice (some ⟨g', 0, none⟩) (pre.length + 1) cap')).heap.size = w1.heap.size := by simp [World.setCell]
      simp only [World.size_alloc] at h5
      omega
  case done =>
    rintro D ys W hD rfl ⟨⟨hpl, u, hv, hrow, _⟩, hB, hz⟩ hK
    have hc := hv.cell
    gi_wp2
    refine ⟨by simp, .inl ⟨_, _, rfl, run_takeDeferred hK, ?_⟩⟩
    exact ⟨_, results_tmp rfl _ _ _, u, rfl, row_mono (ownsRow_putObj hrow _ hK rfl) (by omega), hB.trans (belowK_b (w := w) (Nat.le_refl _) W D _ _ (by omega) hK rfl rfl)⟩
  case stop =>
    rintro D c pre W _ _ h _
    exact h.elim
theorem Keys_ii {w : World} {B p : Nat} {v : Value} {T : List (SE Int)} (h : SK 93 96 (.int .i64) w B p v T) (hl : T.length ≤ 1000000) (hht : ∀ j (hj : j < T.length), 0 < T[j].ht) :
    Calls Try.prog 28 #[.pointer (some ⟨p, 0, none⟩)] w fun e W' => ∃ u, e = .returned u ∧ W'.ownsRow w.heap.size 3 1 u (keysT T T.length).length (evs (keysT T T.length)) ∧ Below w.heap.size w W' :=
  callsIn_wide.1 (keys_in_ii Fence.wide 3 trivial trivial trivial rfl (Nat.le_refl _) h hl hht)
set_option maxRecDepth 100000 in
set_option maxHeartbeats 2000000 in
theorem Next_ii {w : World} {B p : Nat} {v : Value} {T : List (SE Int)} (h : SK 93 96 (.int .i64) w B p v T) (hr : TRise ilt T) (hl : T.length ≤ 1000000) (hht : ∀ j (hj : j < T.length), 0 < T[j].ht) (k : Int) (c : Nat) (hc : CutAt ilt T k c) (x : Nat) (hx : (∃ h : c < T.length, T[c].key = k ∧ x = c + 1) ∨ ((∀ h : c < T.length, T[c].key ≠ k) ∧ x = c)) (rk : Int) (ry : Bool) (rz : Bool) (hR : TellIs T (if x < T.length then x else 0) rk ry rz) :
    Calls Try.prog 30 #[.pointer (some ⟨p, 0, none⟩), .int .i64 k] w fun e w' => e = .returned (.tuple #[.int .i64 rk, .bool ry, .bool rz]) ∧ Below w.heap.size w w' := by
  have hce := ceil_ii h hr hl hht k c hc
  obtain ⟨h0, hh0, hid0⟩ := level_room h
  obtain ⟨hi, h1, h2, h3⟩ := hR
  have hte := fun W (hB : Below w.heap.size w W) => tell_ii (h.below hB) hl _ hi ry h2 rz h3
  have e : (T[if x < T.length then x else 0]'hi).id = idAt T x := by
    by_cases hlt : x < T.length
    · rw [idAt_lt hlt]; simp only [if_pos hlt]
    · have e0 : idAt T x = 0 := dif_neg hlt
      rw [e0]; simp only [if_neg hlt]; exact hid0
  rw [h1, e] at hte
  have Hte := Lib.hid hte
  clear hte h1 h2 h3 e hi
  by_cases hlt : c < T.length
  · rw [dif_pos hlt] at hce
    have hne : T[c].id ≠ 0 := fun e => by
      have := h.ids 0 c h0 hlt (by rw [hid0, e])
      have := hc.1
      omega
    obtain ⟨g, cv, hv, hc1, hc2, hid, k0, d0, d1, d2, dn⟩ := h.node c hlt
    have hd := dn 0 (hht c hlt)
    rw [next_idAt (c + 1) hht] at hd
    have Hce := Lib.hid hce
    have s0 := cell_next k0
    have s1 := cell_next d0
    have s2 := cell_next d2
    have s3 := cell_next hd
    have hn1 : ((T[c].id : Int) != 0) = true := by rw [bne_iff_ne]; omega
    have hn2 : ((T[c].id : Int) == 0) = false := by rw [beq_eq_false_iff_ne]; omega
    have i1 : (0 : Int) ≤ (T[c].id : Nat) := by omega
    have i2 : ((T[c].id : Nat) : Int) < (T.length : Int) := by omega
    have i3 : (0 : Int) < (T[c].ht : Nat) := by have := hht c hlt; omega
    unfold maxLen at hc2
    clear hce hc dn d1 d2 d0 k0 hr hne hd
    by_cases hk : T[c].key = k
    · have hxe : x = c + 1 := by
        rcases hx with ⟨_, _, h⟩ | ⟨h, _⟩
        · exact h
        · exact absurd hk (h hlt)
      subst hxe
      have hk2 : (T[c].key == k) = true := by rw [beq_iff_eq]; exact hk
      clear hk hx h
      go_enter Try.func30, Try.ntmps30
      go_wp2_with fail; (with_reducible refine (Hce.out).mono ?_); rintro e w1 ⟨rfl, hb1⟩
      have e0 := s0 _ hb1
      have e1 := s1 _ hb1
      have e2 := s2 _ hb1
      have e3 := s3 _ hb1
      go_wp2_with fail; (with_reducible refine (Hte.out _ hb1).mono ?_); rintro e w2 ⟨rfl, hb2⟩
      go_wp2
      go_ret3
      exact ⟨rfl, bnext hb1 hb2⟩
    · have hxe : x = c := by
        rcases hx with ⟨_, h, _⟩ | ⟨_, h⟩
        · exact absurd h hk
        · exact h
      subst hxe
      rw [idAt_lt hlt] at Hte
      have hk2 : (T[x].key == k) = false := by rw [beq_eq_false_iff_ne]; exact hk
      clear hk hx h
      go_enter Try.func30, Try.ntmps30
      go_wp2_with fail; (with_reducible refine (Hce.out).mono ?_); rintro e w1 ⟨rfl, hb1⟩
      have e0 := s0 _ hb1
      have e1 := s1 _ hb1
      go_wp2_with fail; (with_reducible refine (Hte.out _ hb1).mono ?_); rintro e w2 ⟨rfl, hb2⟩
      go_wp2
      go_ret3
      exact ⟨rfl, bnext hb1 hb2⟩
  · rw [dif_neg hlt] at hce
    have hxe : x = c := by
      rcases hx with ⟨h, _⟩ | ⟨_, h⟩
      · exact absurd h hlt
      · exact h
    subst hxe
    rw [show idAt T x = 0 from dif_neg hlt, show ((0 : Nat) : Int) = 0 from rfl] at Hte
    have Hce := Lib.hid hce
    clear hce hc hr hx h
    go_enter Try.func30, Try.ntmps30
    go_wp2_with fail; (with_reducible refine (Hce.out).mono ?_); rintro e w1 ⟨rfl, hb1⟩
    go_wp2_with fail; (with_reducible refine (Hte.out _ hb1).mono ?_); rintro e w2 ⟨rfl, hb2⟩
    go_wp2
    go_ret3
    exact ⟨rfl, bnext hb1 hb2⟩
end Go.Proofs.Ythpafhimmhacfaa.ib
