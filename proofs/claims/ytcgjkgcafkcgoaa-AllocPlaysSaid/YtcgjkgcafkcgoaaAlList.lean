/- alloc.Table: List, Count: a range over the closure that zones gives. -/
import Derived.RangeFuncBox
import Derived.RangeFuncNested
import Derived.RangeFuncBound
import Derived.RangeFuncCalls
import Derived.RangeFuncLeaves
import Derived.Shelf.Abstract
import Derived.WalkKit
import Derived.OwnWalkIn
import Derived.TacticsInMore
import Derived.LoopNIn
import Derived.LoopIn
import Derived.Maps.AppendAt
import Derived.Test.YtcgjkgcafkcgoaaAlTab
namespace Go.Proofs.Ytcgjkgcafkcgoaa
open Go.RowKit Go.Shelf
set_option linter.unusedVariables false
set_option linter.unusedSimpArgs false
attribute [local go_sem] Oper.semAt_some

/-- the places of a role, rising, among the first k -/
def places (R : List Int) (v : Int) (k : Nat) : List Nat := (List.range k).filter fun i => R.getD i 0 == v
theorem places_yes {R : List Int} {v : Int} {k : Nat} (h : (R.getD k 0 == v) = true) : places R v (k + 1) = places R v k ++ [k] := by
  unfold places; rw [List.range_succ, List.filter_append]; simp only [List.filter_cons, h, List.filter_nil, if_true, Bool.false_eq_true, if_false, List.append_nil]
theorem places_no {R : List Int} {v : Int} {k : Nat} (h : (R.getD k 0 == v) = false) : places R v (k + 1) = places R v k := by
  unfold places; rw [List.range_succ, List.filter_append]; simp only [List.filter_cons, h, List.filter_nil, if_true, Bool.false_eq_true, if_false, List.append_nil]
theorem places_le (R : List Int) (v : Int) (k : Nat) : (places R v k).length ≤ k := by
  unfold places; exact Nat.le_trans (List.length_filter_le _ _) (by simp)
/-- what a round keeps: what lay below, and the box of the role -/
def KpZ (n₀ b2 : Nat) (A B : World) : Prop := Below n₀ A B ∧ ∀ v, A.cell? ⟨b2, 0, none⟩ = some v → B.cell? ⟨b2, 0, none⟩ = some v
theorem KpZ.trans {n₀ b2 : Nat} {A B C : World} (h : KpZ n₀ b2 A B) (k : KpZ n₀ b2 B C) : KpZ n₀ b2 A C := ⟨h.1.trans k.1, fun v hv => k.2 v (h.2 v hv)⟩
theorem KpZ.put {n₀ b2 : Nat} {w : World} (hn : n₀ ≤ w.heap.size) (W : World) (l : Nat) (o o' : Obj) (hl : w.heap.size ≤ l) (h : W.heap[l]? = some o) (hc : o.isCells = false) (hw : o.isWalk = false) : KpZ n₀ b2 W (W.putObj l o') :=
  ⟨belowK_b hn W l o o' hl h hc hw, fun v hv => cell_kept hv (grownBy_putObj' W l o') (fun r e => by cases e; exact ⟨o, h, hc⟩)⟩
theorem cell_blk {w w' : World} {b j : Nat} (h : w'.heap[b]? = w.heap[b]?) : w'.cell? ⟨b, j, none⟩ = w.cell? ⟨b, j, none⟩ := by
  unfold World.cell?; simp only [h]
theorem getD_at {R : List Int} {k : Nat} (h : k < R.length) : R.getD k 0 = R[k] := by rw [List.getD, List.getElem?_eq_getElem h]; rfl

set_option maxRecDepth 100000 in
set_option maxHeartbeats 2000000 in
theorem zones1_in (F : Fence) (n : Nat) (h8 : F.fn 43) (hro : F.round = none) (hn : 1 ≤ n) (l b1 b2 n₀ p g : Nat) (R : List Int) (v : Int) (hR : R.length ≤ 64) (hg : g < n₀) (J Jx : List Nat → World → Prop)
    (hY : ∀ (pre : List Nat) (x : Nat) (W : World), J pre W → pre.length < R.length → YieldAt F (n - 1) Try.prog l #[.int .i64 (x : Int)] W fun e W' =>
      (e = .returned (.bool true) ∧ J (pre ++ [x]) W' ∧ KpZ n₀ b2 W W') ∨ (e = .returned (.bool false) ∧ Jx (pre ++ [x]) W'))
    (W : World) (hb1 : W.cell? ⟨b1, 0, none⟩ = some (.pointer (some ⟨p, 0, none⟩))) (hb2 : W.cell? ⟨b2, 0, none⟩ = some (.int .i64 v)) (hp : W.cell? ⟨p, 0, none⟩ = some (.slice (some ⟨g, 0, none⟩) R.length R.length))
    (hc : ∀ j, j < R.length → W.cell? ⟨g, j, none⟩ = some (.int .i64 (R.getD j 0))) (h0 : J [] W) :
    CallsIn F n Try.prog 43 #[.func (.yield l) #[] #[], .pointer (some ⟨b1, 0, none⟩), .pointer (some ⟨b2, 0, none⟩)] W fun e W' => (∃ v, e = .returned v) ∧
      ((∃ ys, ys = places R v R.length ∧ J ys W') ∨ (∃ pre, (∃ k, k ≤ R.length ∧ pre = places R v k) ∧ Jx pre W')) := by
  refine callsIn_of_wp Try.func43 rfl h8 ?_ hro
  simp only [Try.ntmps43, List.size_toArray, List.length_cons, List.length_nil, Nat.reduceAdd, Nat.reduceSub, Array.replicate_succ, Array.replicate_zero, List.push_toArray, List.append_toArray, List.nil_append, List.cons_append]
  gi_wp2
  gi_loopw [11] (fun i wr => ∃ k : Nat, k ≤ R.length ∧ i = .int .i64 k ∧ J (places R v k) wr ∧ KpZ n₀ b2 W wr)
    (fun i _ => R.length - (intOf i).toNat)
  case atStart => exact ⟨0, Nat.zero_le _, rfl, h0, Below.refl _ _, fun _ h => h⟩
  case round =>
    obtain ⟨k, hk, rfl, hJs, hnx⟩ := hrel
    have c2 := hnx.2 _ hb2
    by_cases hlt : k < R.length
    · have cg := (hnx.1.cell (p := ⟨g, k, none⟩) hg).trans (hc k hlt)
      have hpl := places_le R v k
      cases hv : (R.getD k 0 == v) with
      | true =>
        obtain ⟨fn, tmps, assign, body, hy, hR2⟩ := hY _ k wr hJs (by omega)
        have hpy := places_yes hv
        generalize R.getD k 0 = rk at *
        gi_wp2
        refine hR2.mono ?_
        rintro e W3 (⟨rfl, hJ3, hk3⟩ | ⟨rfl, hJx3⟩)
        · gi_wp2
          exact ⟨⟨k + 1, by omega, by go_num, by rw [hpy]; exact hJ3, hnx.trans hk3⟩, by (simp [intOf] <;> omega)⟩
        · gi_wp2
          refine bodyPost_ret (results_none rfl _ _ _) rfl ?_
          exact ⟨⟨_, rfl⟩, .inr ⟨_, ⟨k + 1, by omega, by rw [hpy]⟩, hJx3⟩⟩
      | false =>
        have hpy := places_no hv
        generalize R.getD k 0 = rk at *
        gi_wp2
        refine ⟨fun f h => (by cases h), ?_⟩
        gi_wp2
        exact ⟨⟨k + 1, by omega, by go_num, by rw [hpy]; exact hJs, hnx⟩, by (simp [intOf] <;> omega)⟩
    · obtain rfl : k = R.length := by omega
      gi_wp2
      go_end0
      exact ⟨⟨_, rfl⟩, .inl ⟨_, rfl, hJs⟩⟩

set_option maxHeartbeats 1000000 in
theorem zones_in (F : Fence) (n : Nat) (h5 : F.fn 40) (hro : F.round = none) (p : Nat) (v : Int) (w : World) :
    CallsIn F n Try.prog 40 #[.pointer (some ⟨p, 0, none⟩), .int .i64 v] w fun e w' => e = .returned (.func (.func 43) #[] #[.pointer (some ⟨w.heap.size, 0, none⟩), .pointer (some ⟨w.heap.size + 1, 0, none⟩)]) ∧ w' = (w.alloc (.cells #[.pointer (some ⟨p, 0, none⟩)] 23)).alloc (.cells #[.int .i64 v] 3) := by
  refine callsIn_of_wp Try.func40 rfl h5 ?_ hro
  simp only [Try.ntmps40, List.size_toArray, List.length_cons, List.length_nil, Nat.reduceAdd, Nat.reduceSub, Array.replicate_succ, Array.replicate_zero, List.push_toArray, List.append_toArray, List.nil_append, List.cons_append]
  gi_wp2
  go_ret
  exact ⟨rfl, rfl⟩

theorem zones_stops (F : Fence) (n : Nat) (h8 : F.fn 43) (hro : F.round = none) (hn : 1 ≤ n) (b1 b2 n₀ p g : Nat) (R : List Int) (v : Int) (hR : R.length ≤ 64) (w : World) (hn₀ : n₀ ≤ w.heap.size) (hg : g < n₀)
    (hb1 : w.cell? ⟨b1, 0, none⟩ = some (.pointer (some ⟨p, 0, none⟩))) (hb2 : w.cell? ⟨b2, 0, none⟩ = some (.int .i64 v)) (hp : w.cell? ⟨p, 0, none⟩ = some (.slice (some ⟨g, 0, none⟩) R.length R.length))
    (hc : ∀ j, j < R.length → w.cell? ⟨g, j, none⟩ = some (.int .i64 (R.getD j 0))) :
    SeqStopsK F n Try.prog 43 #[.pointer (some ⟨b1, 0, none⟩), .pointer (some ⟨b2, 0, none⟩)] (fun x : Nat => #[Value.int .i64 (x : Int)]) (KpZ n₀ b2) (fun ys => ys = places R v R.length)
      (fun pre => ∃ k, k ≤ R.length ∧ pre = places R v k) R.length w := fun l J Jx W hW _ _ hY h0 =>
  zones1_in F n h8 hro hn l b1 b2 n₀ p g R v hR hg J Jx hY W (cell_next hb1 _ hW) (cell_next hb2 _ hW) (cell_next hp _ hW) (fun j hj => cell_next (hc j hj) _ hW) h0

def nvs (l : List Nat) : List Value := l.map fun (x : Nat) => .int .i64 (x : Int)
theorem nvs_snoc (l : List Nat) (x : Nat) : nvs (l ++ [x]) = nvs l ++ [.int .i64 (x : Int)] := by simp [nvs]

set_option maxRecDepth 100000 in
set_option maxHeartbeats 4000000 in
theorem list_in (F : Fence) (n : Nat) (h3 : F.fn 22) (h4 : F.fn 40) (h5 : F.fn 43) (hro : F.round = none) (hn : 3 ≤ n) {w : World} {B p g : Nat} {R : List Int} {qv : Value} (h : TB w B p g R qv) (v : Int) :
    CallsIn F n Try.prog 22 #[.pointer (some ⟨p, 0, none⟩), .int .i64 v] w fun e W' => ∃ u, e = .returned u ∧ W'.ownsRow w.heap.size 3 1 u (places R v R.length).length (nvs (places R v R.length)) ∧ Below w.heap.size w W' := by
  have h1 : 1 ≤ n := by omega
  obtain ⟨i0, hi, hz0, hz1, hz2⟩ := info_parts infoInt
  refine callsIn_of_wp_marks Try.func22 rfl h3 ?_ hro
  simp only [Try.ntmps22, List.size_toArray, List.length_cons, List.length_nil, Nat.reduceAdd, Nat.reduceSub, Array.replicate_succ, Array.replicate_zero, List.push_toArray, List.append_toArray, List.nil_append, List.cons_append]
  gi_wp2_with (gi_at_call 40; refine (zones_in F (n - 1) h4 hro _ _ _).mono ?_; rintro e w' ⟨rfl, rfl⟩)
  have kO : (((w.alloc (.cells #[.slice none 0 0] 22)).alloc (.cells #[.pointer (some ⟨p, 0, none⟩)] 23)).alloc (.cells #[.int .i64 v] 3)).heap[w.heap.size]? = some (.cells #[.slice none 0 0] 22 (0, 0)) := ((Boxed.new w 22 (.slice none 0 0)).alloc _).alloc _
  have k1 := ((Boxed.new (w.alloc (.cells #[.slice none 0 0] 22)) 23 (.pointer (some ⟨p, 0, none⟩))).alloc (.cells #[.int .i64 v] 3)).cell
  have k2 := (Boxed.new ((w.alloc (.cells #[.slice none 0 0] 22)).alloc (.cells #[.pointer (some ⟨p, 0, none⟩)] 23)) 3 (.int .i64 v)).cell
  simp only [World.size_alloc] at k1 k2
  have hB0 : Below w.heap.size w (((w.alloc (.cells #[.slice none 0 0] 22)).alloc (.cells #[.pointer (some ⟨p, 0, none⟩)] 23)).alloc (.cells #[.int .i64 v] 3)) := (((Below.refl _ w).alloc (Nat.le_refl _) _).alloc (by simp) _).alloc (by simp; omega) _
  have hsz : (((w.alloc (.cells #[.slice none 0 0] 22)).alloc (.cells #[.pointer (some ⟨p, 0, none⟩)] 23)).alloc (.cells #[.int .i64 v] 3)).heap.size = w.heap.size + 3 := by simp
  generalize (((w.alloc (.cells #[.slice none 0 0] 22)).alloc (.cells #[.pointer (some ⟨p, 0, none⟩)] 23)).alloc (.cells #[.int .i64 v] 3)) = W0 at *
  have hT := h.below hB0
  have hpR := places_le R v R.length
  have hR64 := h.2.2.2
  refine wpIn_rangeFunc_ownG hro h1 (gf := 43) (lb := #[.pointer (some ⟨w.heap.size + 1, 0, none⟩), .pointer (some ⟨w.heap.size + 1 + 1, 0, none⟩)]) rfl h5 (enters_of Try.func43 (by kernel_rfl) rfl)
    (zones_stops F (n - 1) h5 hro (by omega) (w.heap.size + 1) (w.heap.size + 1 + 1) w.heap.size p g R v hR64 W0 (by omega) h.glt.2 k1 k2 (cell_pair hT.1).1 (fun j hj => by rw [hT.cell j hj, getD_at hj])) KpZ.trans (KpZ.put (by omega)) (Below.refl _ _) (fun _ => rfl)
    (fun pre W => (pre.length ≤ R.length ∧ ∃ u, Boxed W w.heap.size 22 u ∧ W.ownsRow W0.heap.size 3 1 u pre.length (nvs pre) ∧ True) ∧ Below w.heap.size w W ∧ W0.heap.size ≤ W.heap.size)
    (fun _ _ _ => False)
    ?own
    (fun _ _ _ _ _ hs _ _ => hs)
    ⟨⟨Nat.zero_le _, _, kO, World.ownsRow_nil _ _ _ _, trivial⟩, hB0, Nat.le_refl _⟩
    (fun x => { tmps := #[.pointer (some ⟨p, 0, none⟩), .int .i64 v, undef, undef, .slice none 0 0, .pointer (some ⟨w.heap.size, 0, none⟩), .int .i64 (x : Int), .pointer (some ⟨p, 0, none⟩), .int .i64 v, .func (.func 43) #[] #[.pointer (some ⟨w.heap.size + 1, 0, none⟩), .pointer (some ⟨w.heap.size + 1 + 1, 0, none⟩)], .int .i64 (x : Int), undef, undef, undef, undef, undef], defers := [] }) ?assign ?body ?done ?stop
  case own =>
    exact OwnFrom.and (fun s A Bw row hs hg hr => ⟨hs.1, holdsRow_own W0.heap.size w.heap.size 22 3 1 (fun (pre : List Nat) => pre.length) nvs (fun _ _ => True) s A Bw row hs.2 hg (fun r e => (hr r e).2)⟩) (OwnFrom.and (ownFrom_below (Nat.le_refl _) (by omega)) (fun s A Bw row hs hg hr => Nat.le_trans hs hg.size))
  case assign =>
    intro l x W K hK
    gi_wp2
    exact hK
  case body =>
    rintro l pre x W ⟨⟨hpl, u, hv, hrow, _⟩, hB, hz⟩ hlt
    have hc := hv.cell
    have hlt' : pre.length < R.length := hlt
    gi_wp2_with (gi_at_builtin; refine wpListIn_append_own _ rfl _ _ 22 rfl W0.heap.size 3 i0 (.int .i64 0) 1 8 Try.underlying22 hi hz0 hz1 hz2 rfl (by decide) u pre.length (nvs pre) rfl (hrow.alloc _) ⟨W.heap.size, 0, none⟩ 1 1 [.int .i64 (x : Int)] rfl rfl (cell_one_new _ _ _) (by simp [Value.oneCell']) (by unfold maxLen; omega) (by omega) (by simp; omega) ?_; intro v' w1 hown' hgrow _; obtain ⟨g', cap', rfl⟩ := ownsRow_succ hown'; obtain ⟨hv1, hv2, hr2, hk2, hb2⟩ := hv.appended (by decide) (row_mono hrow (show w.heap.size ≤ W0.heap.size by omega)) hB.size (Nat.le_refl _) (row_mono hown' (show w.heap.size ≤ W0.heap.size by omega)) hgrow; have hc1 := hv1.cell; have hf1 := hv1.frozen)
    have e1 : w1.heap[w.heap.size + 1 + 1]? = (W.alloc (.cells #[.int .i64 (x : Int)] 3)).heap[w.heap.size + 1 + 1]? := hgrow.block _ (by simp; omega) (fun e => by have := (World.ownsRow.lt hrow _ e.symm).1; omega)
    have e2 : (w1.setCell ⟨w.heap.size, 0, none⟩ (.slice (some ⟨g', 0, none⟩) (pre.length + 1) cap')).heap[w.heap.size + 1 + 1]? = W.heap[w.heap.size + 1 + 1]? := (Below.heap_setCell _ _ _ _ (show w.heap.size + 1 + 1 ≠ w.heap.size by omega)).trans (e1.trans (Below.heap_alloc _ _ _ (by omega)))
    refine ⟨hk2.from _, ⟨hb2, fun vv hvv => by rw [cell_blk e2]; exact hvv⟩, ⟨by rw [List.length_append]; exact hlt', _, hv2, ?_, trivial⟩, hB.trans hb2, ?_⟩
    · rw [nvs_snoc, List.length_append]
      exact hown'.kept (grownBy_setCell' w1 w.heap.size _) (.inr (fun e => by have := (World.ownsRow.lt hown' _ e).1; omega))
    · have h5 := hgrow.size
      have h6 : (w1.setCell ⟨w.heap.size, 0, none⟩ (.slice (some ⟨g', 0, none⟩) (pre.length + 1) cap')).heap.size = w1.heap.size := by simp [World.setCell]
      simp only [World.size_alloc] at h5
      omega
  case done =>
    rintro D ys W hD rfl ⟨⟨hpl, u, hv, hrow, _⟩, hB, hz⟩ hK
    have hc := hv.cell
    gi_wp2
    refine ⟨by simp, .inl ⟨_, _, rfl, run_takeDeferred hK, ?_⟩⟩
    exact ⟨_, results_tmp rfl _ _ _, u, rfl, row_mono (ownsRow_putObj hrow _ hK rfl) (by omega), hB.trans (belowK_b (w := w) (Nat.le_refl _) W D _ _ (by omega) hK rfl rfl)⟩
  case stop =>
    rintro D c pre W _ _ h _
    exact h.elim
theorem list_any {w : World} {B p g : Nat} {R : List Int} {qv : Value} (h : TB w B p g R qv) (v : Int) :
    Calls Try.prog 22 #[.pointer (some ⟨p, 0, none⟩), .int .i64 v] w fun e W' => ∃ u, e = .returned u ∧ W'.ownsRow w.heap.size 3 1 u (places R v R.length).length (nvs (places R v R.length)) ∧ Below w.heap.size w W' :=
  callsIn_wide.1 (list_in Fence.wide 3 trivial trivial trivial rfl (Nat.le_refl _) h v)
theorem count_any {w : World} {B p g : Nat} {R : List Int} {qv : Value} (h : TB w B p g R qv) (v z : Int) (hz : ((places R v R.length).length : Int) = z) :
    Calls Try.prog 12 #[.pointer (some ⟨p, 0, none⟩), .int .i64 v] w fun e W' => e = .returned (.int .i64 z) ∧ Below w.heap.size w W' := by
  subst hz
  have H := Lib.hid h
  clear h
  go_enter Try.func12, Try.ntmps12
  go_wp2_with fail
  with_reducible refine (list_any H.out v).mono ?_
  rintro e w1 ⟨u, rfl, ho, hb⟩
  obtain ⟨ao, c, rfl, _⟩ := row_shape ho
  clear ho
  go_wp2
  go_ret
  exact ⟨rfl, hb⟩
end Go.Proofs.Ytcgjkgcafkcgoaa
