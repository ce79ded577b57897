/- The list at [string, string], part 3 (printed by inst.py). -/
import Derived.RangeFuncBox
import Derived.RangeFuncNested
import Derived.RangeFuncBound
import Derived.RangeFuncCalls
import Derived.RangeFuncLeaves
import Derived.Shelf.Abstract
import Derived.WalkKit
import Derived.OwnWalkIn
import Derived.TacticsInMore
import Derived.LoopNIn
import Derived.LoopIn
import Derived.Maps.AppendAt
import Derived.Test.YtcbkjhbneigkaaaYSkss1
namespace Go.Proofs.Ytcbkjhbneigkaaa.ss
open Go.RowKit Go.Shelf
set_option linter.unusedVariables false
set_option linter.unusedSimpArgs false
set_option linter.unusedSectionVars false
attribute [local go_sem] Oper.semAt_some
set_option maxRecDepth 100000 in
set_option maxHeartbeats 2000000 in
theorem all1_in_ii (F : Fence) (n : Nat) (h8 : F.fn 57) (hro : F.round = none) (hn : 1 ≤ n) (l b1 n₀ p B : Nat) (v : Value) (T : List (SE ByteArray)) (hl : T.length ≤ 1000000) (hht : ∀ j (hj : j < T.length), 0 < T[j].ht) (hlt : ∀ k, Fp p v T k → k < n₀) (J Jx : List ByteArray → World → Prop)
    (hY : ∀ (pre : List ByteArray) (x : ByteArray) (W : World), J pre W → pre.length + 1 < T.length → YieldAt F (n - 1) Try.prog l #[.string x] W fun e W' =>
      (e = .returned (.bool true) ∧ J (pre ++ [x]) W' ∧ KpS n₀ b1 W W') ∨ (e = .returned (.bool false) ∧ Jx (pre ++ [x]) W'))
    (W : World) (hb1 : W.cell? ⟨b1, 0, none⟩ = some (.pointer (some ⟨p, 0, none⟩))) (hS : SK 91 94 (.string) W B p v T) (h0 : J [] W) :
    CallsIn F n Try.prog 57 #[.func (.yield l) #[] #[], .pointer (some ⟨b1, 0, none⟩)] W fun e W' => (∃ v, e = .returned v) ∧
      ((∃ ys, ys = keysT T T.length ∧ J ys W') ∨ (∃ pre, (∃ k, k ≤ T.length ∧ pre = keysT T k) ∧ Jx pre W')) := by
  obtain ⟨hp0, hh0, hid0⟩ := level_room hS
  refine callsIn_of_wp Try.func57 rfl h8 ?_ hro
  simp only [Try.ntmps57, List.size_toArray, List.length_cons, List.length_nil, Nat.reduceAdd, Nat.reduceSub, Array.replicate_succ, Array.replicate_zero, List.push_toArray, List.append_toArray, List.nil_append, List.cons_append]
  obtain ⟨g, cv, hv, hc1, hc2, hid, k0, d0, d1, d2, dn⟩ := hS.node 0 hp0
  have hd := dn 0 (hht 0 hp0)
  rw [Nat.zero_add, next_idAt 1 hht] at hd
  rw [hid0] at d2
  unfold maxLen at hc2
  have htI : (0 : Int) < (T[0].ht : Nat) := by have := hht 0 hp0; omega
  have hlI : (0 : Int) < (T.length : Nat) := by omega
  have HS := Lib.hid hS
  clear dn d0 d1 hid hS
  gi_wp2
  gi_loopw [3] (fun u wr => ∃ i : Nat, 1 ≤ i ∧ i ≤ T.length ∧ u = .int .i64 ((idAt T i : Nat) : Int) ∧ J (keysT T i) wr ∧ KpS n₀ b1 W wr)
    (fun u _ => T.length - plc T (intOf u).toNat)
  case atStart => exact ⟨1, Nat.le_refl _, by omega, rfl, by rw [keysT_one]; exact h0, Below.refl _ _, fun _ h => h⟩
  case round =>
    obtain ⟨i, h1i, hi, rfl, hJs, hnx⟩ := hrel
    have c1 := hnx.2 _ hb1
    have hSr := HS.out.chg (chg_of_below hnx.1) (fun k hk e => by have := hlt k hk; omega)
    clear hd d2 k0 htI
    by_cases hlt' : i < T.length
    · have hne : T[i].id ≠ 0 := fun e => by
        have := HS.out.ids 0 i hp0 hlt' (by rw [hid0, e])
        omega
      have hpa : plc T T[i].id = i := plc_at HS.out.ids i hlt' hne
      have hpn : plc T (idAt T (i + 1)) = i + 1 := by
        by_cases hx : i + 1 < T.length
        · rw [idAt_lt hx]
          exact plc_at HS.out.ids (i + 1) hx (fun e => by
            have := HS.out.ids 0 (i + 1) hp0 hx (by rw [hid0, e])
            omega)
        · have e : i + 1 = T.length := by omega
          rw [e, idAt_end, plc_zero]
      obtain ⟨g2, cv2, hv2, he1, he2, hid2, a0, b0, b1', b2, bn⟩ := hSr.node i hlt'
      have be := bn 0 (hht i hlt')
      rw [next_idAt (i + 1) hht] at be
      have hn1 : ((T[i].id : Int) != 0) = true := by rw [bne_iff_ne]; omega
      have hn2 : ((T[i].id : Int) == 0) = false := by rw [beq_eq_false_iff_ne]; omega
      have i1 : (0 : Int) ≤ (T[i].id : Nat) := by omega
      have i2 : ((T[i].id : Nat) : Int) < (T.length : Int) := by omega
      have i3 : (0 : Int) < (T[i].ht : Nat) := by have := hht i hlt'; omega
      obtain ⟨fn, tmps, assign, body, hy, hR2⟩ := hY _ T[i].key wr hJs (by rw [keysT_len _ _ hi]; omega)
      have hks := keysT_succ T i h1i hlt'
      unfold maxLen at he2
      rw [idAt_lt hlt']
      generalize hqq : idAt T (i + 1) = nx at *
      have Hks := Lib.hid hks
      have hms : T.length - plc T nx < T.length - plc T T[i].id := by omega
      have Hms := Lib.hid hms
      have Hqq := Lib.hid hqq
      clear bn hpa hpn b1' hks hms hqq hne
      gi_wp2
      refine hR2.mono ?_
      rintro e W3 (⟨rfl, hJ3, hk3⟩ | ⟨rfl, hJx3⟩)
      · have c3 := hk3.2 _ c1
        have hS3 := hSr.chg (chg_of_below hk3.1) (fun k hk e => by have := hlt k hk; omega)
        obtain ⟨g3, cv3, hv3, hf1, hf2, hid3, r0, r1, r2, r3, rn⟩ := hS3.node i hlt'
        have re := rn 0 (by omega)
        rw [next_idAt (i + 1) hht, Hqq.out] at re
        unfold maxLen at hf2
        clear rn r1 r2
        gi_wp2
        exact ⟨⟨i + 1, by omega, by omega, by rw [Hqq.out], by rw [Hks.out]; exact hJ3, hnx.trans hk3⟩, by have := Hms.out; simpa [intOf] using this⟩
      · gi_wp2
        refine bodyPost_ret (results_none rfl _ _ _) rfl ?_
        exact ⟨⟨_, rfl⟩, .inr ⟨_, ⟨i + 1, by omega, by rw [Hks.out]⟩, hJx3⟩⟩
    · obtain rfl : i = T.length := by omega
      rw [idAt_end]
      gi_wp2
      go_end0
      exact ⟨⟨_, rfl⟩, .inl ⟨_, rfl, hJs⟩⟩

set_option maxHeartbeats 1000000 in
theorem all_in_ii (F : Fence) (n : Nat) (h5 : F.fn 52) (hro : F.round = none) (p : Nat) (w : World) :
    CallsIn F n Try.prog 52 #[.pointer (some ⟨p, 0, none⟩)] w fun e w' => e = .returned (.func (.func 57) #[] #[.pointer (some ⟨w.heap.size, 0, none⟩)]) ∧ w' = w.alloc (.cells #[.pointer (some ⟨p, 0, none⟩)] 65) := by
  refine callsIn_of_wp Try.func52 rfl h5 ?_ hro
  simp only [Try.ntmps52, List.size_toArray, List.length_cons, List.length_nil, Nat.reduceAdd, Nat.reduceSub, Array.replicate_succ, Array.replicate_zero, List.push_toArray, List.append_toArray, List.nil_append, List.cons_append]
  gi_wp2
  go_ret
  exact ⟨rfl, rfl⟩

theorem all_stops_ii (F : Fence) (n : Nat) (h8 : F.fn 57) (hro : F.round = none) (hn : 1 ≤ n) (b1 n₀ p B : Nat) (v : Value) (T : List (SE ByteArray)) (hl : T.length ≤ 1000000) (hht : ∀ j (hj : j < T.length), 0 < T[j].ht) (w : World) (hn₀ : n₀ ≤ w.heap.size) (hlt : ∀ k, Fp p v T k → k < n₀)
    (hb1 : w.cell? ⟨b1, 0, none⟩ = some (.pointer (some ⟨p, 0, none⟩))) (hS : SK 91 94 (.string) w B p v T) :
    SeqStopsK F n Try.prog 57 #[.pointer (some ⟨b1, 0, none⟩)] (fun x : ByteArray => #[Value.string x]) (KpS n₀ b1) (fun ys => ys = keysT T T.length)
      (fun pre => ∃ k, k ≤ T.length ∧ pre = keysT T k) (T.length - 1) w := fun l J Jx W hW _ _ hY h0 =>
  all1_in_ii F n h8 hro hn l b1 n₀ p B v T hl hht hlt J Jx (fun pre x W hJ hpl => hY pre x W hJ (by omega)) W (cell_next hb1 _ hW) (hS.below hW) h0

def evs (l : List ByteArray) : List Value := l.map Value.string
theorem evs_snoc (l : List ByteArray) (x : ByteArray) : evs (l ++ [x]) = evs l ++ [.string x] := by simp [evs]

set_option maxRecDepth 100000 in
set_option maxHeartbeats 4000000 in
theorem keys_in_ii (F : Fence) (n : Nat) (h3 : F.fn 40) (h4 : F.fn 52) (h5 : F.fn 57) (hro : F.round = none) (hn : 3 ≤ n) {w : World} {B p : Nat} {v : Value} {T : List (SE ByteArray)} (h : SK 91 94 (.string) w B p v T) (hl : T.length ≤ 1000000) (hht : ∀ j (hj : j < T.length), 0 < T[j].ht) :
    CallsIn F n Try.prog 40 #[.pointer (some ⟨p, 0, none⟩)] w fun e W' => ∃ u, e = .returned u ∧ W'.ownsRow w.heap.size 9 1 u (keysT T T.length).length (evs (keysT T T.length)) ∧ Below w.heap.size w W' := by
  have h1 : 1 ≤ n := by omega
  obtain ⟨i0, hi, hz0, hz1, hz2⟩ := info_parts infoStr05
  refine callsIn_of_wp_marks Try.func40 rfl h3 ?_ hro
  simp only [Try.ntmps40, List.size_toArray, List.length_cons, List.length_nil, Nat.reduceAdd, Nat.reduceSub, Array.replicate_succ, Array.replicate_zero, List.push_toArray, List.append_toArray, List.nil_append, List.cons_append]
  gi_wp2_with (gi_at_call 52; refine (all_in_ii F (n - 1) h4 hro _ _).mono ?_; rintro e w' ⟨rfl, rfl⟩)
  have kO : ((w.alloc (.cells #[.slice none 0 0] 22)).alloc (.cells #[.pointer (some ⟨p, 0, none⟩)] 65)).heap[w.heap.size]? = some (.cells #[.slice none 0 0] 22 (0, 0)) := (Boxed.new w 22 (.slice none 0 0)).alloc _
  have k1 := (Boxed.new (w.alloc (.cells #[.slice none 0 0] 22)) 65 (.pointer (some ⟨p, 0, none⟩))).cell
  simp only [World.size_alloc] at k1
  have hB0 : Below w.heap.size w ((w.alloc (.cells #[.slice none 0 0] 22)).alloc (.cells #[.pointer (some ⟨p, 0, none⟩)] 65)) := ((Below.refl _ w).alloc (Nat.le_refl _) _).alloc (by simp) _
  have hsz : ((w.alloc (.cells #[.slice none 0 0] 22)).alloc (.cells #[.pointer (some ⟨p, 0, none⟩)] 65)).heap.size = w.heap.size + 2 := by simp
  generalize ((w.alloc (.cells #[.slice none 0 0] 22)).alloc (.cells #[.pointer (some ⟨p, 0, none⟩)] 65)) = W0 at *
  have hT := h.below hB0
  have hlt : ∀ k, Fp p v T k → k < w.heap.size := fun k hk => (h.fp_ge k hk).2
  have hkl := keysT_len T T.length (Nat.le_refl _)
  refine wpIn_rangeFunc_ownG hro h1 (gf := 57) (lb := #[.pointer (some ⟨w.heap.size + 1, 0, none⟩)]) rfl h5 (enters_of Try.func57 (by kernel_rfl) rfl)
    (all_stops_ii F (n - 1) h5 hro (by omega) (w.heap.size + 1) w.heap.size p B v T hl hht W0 (by omega) hlt k1 hT) KpS.trans (KpS.put (by omega)) (Below.refl _ _) (fun _ => rfl)
    (fun pre W => (pre.length ≤ T.length ∧ ∃ u, Boxed W w.heap.size 22 u ∧ W.ownsRow W0.heap.size 9 1 u pre.length (evs pre) ∧ True) ∧ Below w.heap.size w W ∧ W0.heap.size ≤ W.heap.size)
    (fun _ _ _ => False)
    ?own
    (fun _ _ _ _ _ hs _ _ => hs)
    ⟨⟨Nat.zero_le _, _, kO, World.ownsRow_nil _ _ _ _, trivial⟩, hB0, Nat.le_refl _⟩
    (fun x => { tmps := #[.pointer (some ⟨p, 0, none⟩), undef, .slice none 0 0, .pointer (some ⟨w.heap.size, 0, none⟩), .string x, .pointer (some ⟨p, 0, none⟩), .func (.func 57) #[] #[.pointer (some ⟨w.heap.size + 1, 0, none⟩)], .string x, undef, undef, undef, undef, undef], defers := [] }) ?assign ?body ?done ?stop
  case own =>
    exact OwnFrom.and (fun s A Bw row hs hg hr => ⟨hs.1, holdsRow_own W0.heap.size w.heap.size 22 9 1 (fun (pre : List ByteArray) => pre.length) evs (fun _ _ => True) s A Bw row hs.2 hg (fun r e => (hr r e).2)⟩) (OwnFrom.and (ownFrom_below (Nat.le_refl _) (by omega)) (fun s A Bw row hs hg hr => Nat.le_trans hs hg.size))
  case assign =>
    intro l x W K hK
    gi_wp2
    exact hK
  case body =>
    rintro l pre x W ⟨⟨hpl, u, hv, hrow, _⟩, hB, hz⟩ hlt
    have hc := hv.cell
    have hlt' : pre.length < T.length - 1 := hlt
    gi_wp2_with (gi_at_builtin; refine wpListIn_append_own _ rfl _ _ 22 rfl W0.heap.size 9 i0 (.string ByteArray.empty) 1 16 Try.underlying22 hi hz0 hz1 hz2 rfl (by decide) u pre.length (evs pre) rfl (hrow.alloc _) ⟨W.heap.size, 0, none⟩ 1 1 [.string x] rfl rfl (cell_one_new _ _ _) (by simp [Value.oneCell']) (by unfold maxLen; omega) (by omega) (by simp; omega) ?_; intro v' w1 hown' hgrow _; obtain ⟨g', cap', rfl⟩ := ownsRow_succ hown'; obtain ⟨hv1, hv2, hr2, hk2, hb2⟩ := hv.appended (by decide) (row_mono hrow (show w.heap.size ≤ W0.heap.size by omega)) hB.size (Nat.le_refl _) (row_mono hown' (show w.heap.size ≤ W0.heap.size by omega)) hgrow; have hc1 := hv1.cell; have hf1 := hv1.frozen)
    have e1 : w1.heap[w.heap.size + 1]? = (W.alloc (.cells #[.string x] 9)).heap[w.heap.size + 1]? := hgrow.block _ (by simp; omega) (fun e => by have := (World.ownsRow.lt hrow _ e.symm).1; omega)
    have e2 : (w1.setCell ⟨w.heap.size, 0, none⟩ (.slice (some ⟨g', 0, none⟩) (pre.length + 1) cap')).heap[w.heap.size + 1]? = W.heap[w.heap.size + 1]? := (Below.heap_setCell _ _ _ _ (show w.heap.size + 1 ≠ w.heap.size by omega)).trans (e1.trans (Below.heap_alloc _ _ _ (by omega)))
    refine ⟨hk2.from _, ⟨hb2, fun vv hvv => by rw [cell_blk05 e2]; exact hvv⟩, ⟨by rw [List.length_append]; exact (show pre.length + 1 ≤ T.length by omega), _, hv2, ?_, trivial⟩, hB.trans hb2, ?_⟩
    · rw [evs_snoc, List.length_append]
      exact hown'.kept (grownBy_setCell' w1 w.heap.size _) (.inr (fun e => by have := (World.ownsRow.lt hown' _ e).1; omega))
    · have h5 := hgrow.size
      have h6 : (w1.setCell ⟨w.heap.size, 0, none⟩ (.slice (some ⟨g', 0, none⟩) (pre.length + 1) cap')).heap.size = w1.heap.size := by simp [World.setCell]
      simp only [World.size_alloc] at h5
      omega
  case done =>
    rintro D ys W hD rfl ⟨⟨hpl, u, hv, hrow, _⟩, hB, hz⟩ hK
    have hc := hv.cell
    gi_wp2
    refine ⟨by simp, .inl ⟨_, _, rfl, run_takeDeferred hK, ?_⟩⟩
    exact ⟨_, results_tmp rfl _ _ _, u, rfl, row_mono (ownsRow_putObj hrow _ hK rfl) (by omega), hB.trans (belowK_b (w := w) (Nat.le_refl _) W D _ _ (by omega) hK rfl rfl)⟩
  case stop =>
    rintro D c pre W _ _ h _
    exact h.elim
theorem Keys_ii {w : World} {B p : Nat} {v : Value} {T : List (SE ByteArray)} (h : SK 91 94 (.string) w B p v T) (hl : T.length ≤ 1000000) (hht : ∀ j (hj : j < T.length), 0 < T[j].ht) :
    Calls Try.prog 40 #[.pointer (some ⟨p, 0, none⟩)] w fun e W' => ∃ u, e = .returned u ∧ W'.ownsRow w.heap.size 9 1 u (keysT T T.length).length (evs (keysT T T.length)) ∧ Below w.heap.size w W' :=
  callsIn_wide.1 (keys_in_ii Fence.wide 3 trivial trivial trivial rfl (Nat.le_refl _) h hl hht)
end Go.Proofs.Ytcbkjhbneigkaaa.ss
