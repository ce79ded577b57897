/- Chapter 09: Scan. -/
import Derived.Test.YtmhklmecpbdljaaDoorYRlS
import Derived.RangeFuncBox
import Derived.BigRegionIn
namespace Go.Proofs.YtmhklmecpbdljaaDoor
open Go.RowKit Go.Shelf
set_option linter.unusedVariables false
set_option linter.unusedSimpArgs false
attribute [local go_sem] Oper.semAt_some

theorem infoSl9 : (Tryd.prog.info? 23).map (fun i => (i.zero, i.size, i.bytes)) = some (some (.slice none 0 0), 1, 24) := by kernel_rfl
theorem row_own9 {W W' : World} {row : Option Nat} {B : Nat} {e : TypeId} {sz : Nat} {v : Value} {n : Nat} {xs : List Value} (h : W.ownsRow B e sz v n xs) (hg : W.grownBy W' row) (hr : ∀ r, row = some r → ∃ o : Obj, W.heap[r]? = some o ∧ o.isCells = false) : W'.ownsRow B e sz v n xs := by
  refine h.kept hg ?_
  rcases h.2 with ⟨rfl, _⟩ | ⟨g, cap, cur, rfl, _, hgb, _⟩
  · exact .inl rfl
  · refine .inr fun e => ?_
    obtain ⟨o, ho, hc⟩ := hr g e.symm
    rw [hgb] at ho; cases ho; cases hc
theorem box_own9 {W W' : World} {row : Option Nat} {B : Nat} {t : TypeId} {v : Value} (h : Boxed W B t v) (hg : W.grownBy W' row) (hr : ∀ r, row = some r → ∃ o : Obj, W.heap[r]? = some o ∧ o.isCells = false) : Boxed W' B t v :=
  h.kept hg fun e => by
    obtain ⟨o, ho, hc⟩ := hr B e.symm
    rw [show W.heap[B]? = _ from h] at ho; cases ho; cases hc
theorem ob_row9 {W : World} {B C : Nat} {v u : Value} {l : List UInt8} {n : Nat} {xs : List Value} (h : OB W B v l) (k : W.ownsRow C 23 1 u n xs) : v.ownBlock = none ∨ v.ownBlock ≠ u.ownBlock := by
  rcases h.2 with ⟨rfl, _⟩ | ⟨g, cap, cur, rfl, _, hgb, _⟩
  · exact .inl rfl
  · refine .inr fun e => ?_
    rcases k.2 with ⟨rfl, _⟩ | ⟨g', cap', cur', rfl, _, hgb', _⟩
    · cases e
    · have : g = g' := by simpa [Value.ownBlock] using e
      subst this
      rw [hgb] at hgb'
      simp at hgb'
theorem frames_in9 (n : Nat) (ao : Option Addr) (len c : Nat) (w : World) :
    CallsIn Fence.wide n Tryd.prog 73 #[.slice ao len c] w fun e w' => e = .returned (.func (.func 83) #[] #[.pointer (some ⟨w.heap.size, 0, none⟩)]) ∧ w' = w.alloc (.cells #[.slice ao len c] 23) := by
  refine callsIn_of_wp Tryd.func73 rfl trivial ?_ rfl
  simp only [Tryd.ntmps73, List.size_toArray, List.length_cons, List.length_nil, Nat.reduceAdd, Nat.reduceSub, Array.replicate_succ, Array.replicate_zero, List.push_toArray, List.append_toArray, List.nil_append, List.cons_append]
  gi_wp2
  go_ret
  exact ⟨rfl, rfl⟩
def rxs (xs : List RX) : List Value := xs.map RX.v
theorem rxs_snoc (xs : List RX) (x : RX) : rxs (xs ++ [x]) = rxs xs ++ [.slice x.ao x.l.length x.c] := by simp [rxs, RX.v]
/-- the records that were told lie in memory -/
def RowR (W : World) (B : Nat) (u : Value) (xs : List RX) : Prop :=
  W.ownsRow B 23 1 u xs.length (rxs xs) ∧ ∀ x ∈ xs, OB W B (.slice x.ao x.l.length x.c) x.l ∧ x.c ≤ maxLen
def IRx9 (w : World) (B : Nat) (xs : List RX) (W : World) : Prop :=
  ((5 * xs.length ≤ 100000000000 ∧ ∃ u, Boxed W w.heap.size 62 u ∧ RowR W B u xs) ∧ Boxed W (w.heap.size + 1) 3 (.int .i64 ((flR (xs.map RX.l)).length : Nat))) ∧ Below w.heap.size w W ∧ B ≤ W.heap.size
theorem RowR.own {W W' : World} {row : Option Nat} {B : Nat} {u : Value} {xs : List RX} (h : RowR W B u xs) (hg : W.grownBy W' row) (hr : ∀ r, row = some r → ∃ o : Obj, W.heap[r]? = some o ∧ o.isCells = false) : RowR W' B u xs :=
  ⟨row_own9 h.1 hg hr, fun x hx => ⟨row_own9 (h.2 x hx).1 hg hr, (h.2 x hx).2⟩⟩
theorem IRx9.own {w : World} {B : Nat} (hB : w.heap.size ≤ B) : OwnFrom B (IRx9 w B) := by
  rintro xs W W' row ⟨⟨⟨h1, u, h2, h3⟩, h4⟩, h5, h6⟩ hg hr
  have hr' := fun r e => (hr r e).2
  exact ⟨⟨⟨h1, u, box_own9 h2 hg hr', h3.own hg hr'⟩, box_own9 h4 hg hr'⟩, h5.grown hg h5.size (fun k e => Nat.le_trans hB (hr k e).1), Nat.le_trans h6 hg.size⟩
theorem XR.own {B C : Nat} (pre : List RX) : OwnFrom C (XR B pre) := by
  rintro x W W' row ⟨h1, h2⟩ hg hr
  exact ⟨row_own9 h1 hg (fun r e => (hr r e).2), h2⟩
theorem loadVar_sl9 {w : World} {a : Addr} {v : Value} (h : w.cell? a = some v) : (loadVar 62 a).run Tryd.prog w = .ok v w := by
  simp [loadVar, isAgg, go_sem, Tryd.underlying62, load, Sem.run, h]
theorem loadVar_int9 {w : World} {a : Addr} {v : Value} (h : w.cell? a = some v) : (loadVar 3 a).run Tryd.prog w = .ok v w := by
  simp [loadVar, isAgg, go_sem, Tryd.underlying3, load, Sem.run, h]
theorem results_cells9 {fn : Func} {p q : Nat} (hr : fn.results = #[.cell p 62, .cell q 3]) {w : World} {tmps : Array Value} {a b : Addr} {u v : Value} (hp : tmps.getD p undef = .pointer (some a)) (hq : tmps.getD q undef = .pointer (some b)) (hu : w.cell? a = some u) (hv : w.cell? b = some v) :
    (results fn tmps).run Tryd.prog w = .ok (.tuple #[u, v]) w := by
  have hp' : tmps[p]?.getD undef = .pointer (some a) := by simpa using hp
  have hq' : tmps[q]?.getD undef = .pointer (some b) := by simpa using hq
  simp [results, hr, hp', hq', asAddr, Sem.run_bind, Result.andThen, loadVar_sl9 hu, loadVar_int9 hv]
def ScanOut (w : World) (b : List UInt8) (e : Ending) (w' : World) : Prop :=
  ∃ (xs : List RX) (u : Value), ScanIs b (xs.map RX.l) ∧ e = .returned (.tuple #[u, .int .i64 ((flR (xs.map RX.l)).length : Nat)]) ∧ RowR w' w.heap.size u xs ∧ Below w.heap.size w w'
set_option maxRecDepth 100000 in
set_option maxHeartbeats 2000000 in
theorem scan_in9 {w : World} {ao : Option Addr} {c : Nat} {b : List UInt8} (hT : Tab9 w) (h : RB w (.slice ao b.length c) b) (hl : b.length ≤ 100000000000) :
    CallsIn Fence.wide 3 Tryd.prog 54 #[.slice ao b.length c] w (ScanOut w b) := by
  obtain ⟨i0, hi, hz0, hz1, hz2⟩ := info_parts infoSl9
  refine callsIn_of_wp_marks Tryd.func54 rfl trivial ?_ rfl
  simp only [Tryd.ntmps54, List.size_toArray, List.length_cons, List.length_nil, Nat.reduceAdd, Nat.reduceSub, Array.replicate_succ, Array.replicate_zero, List.push_toArray, List.append_toArray, List.nil_append, List.cons_append]
  gi_wp2_with (refine ⟨trivial, ?_⟩; gi_at_call 73; refine (frames_in9 2 _ _ _ _).mono ?_; rintro e w' ⟨rfl, rfl⟩)
  have kO : Boxed (((w.alloc (.cells #[.slice none 0 0] 62)).alloc (.cells #[.int .i64 0] 3)).alloc (.cells #[.slice ao b.length c] 23)) w.heap.size 62 (.slice none 0 0) := ((Boxed.new w 62 (.slice none 0 0)).alloc _).alloc _
  have kE := (Boxed.new (w.alloc (.cells #[.slice none 0 0] 62)) 3 (.int .i64 0)).alloc (.cells #[.slice ao b.length c] 23)
  have k1 := (Boxed.new ((w.alloc (.cells #[.slice none 0 0] 62)).alloc (.cells #[.int .i64 0] 3)) 23 (.slice ao b.length c)).cell
  simp only [World.size_alloc] at k1 kE
  have hB0 : Below w.heap.size w (((w.alloc (.cells #[.slice none 0 0] 62)).alloc (.cells #[.int .i64 0] 3)).alloc (.cells #[.slice ao b.length c] 23)) := (((Below.refl _ w).alloc (Nat.le_refl _) _).alloc (by simp) _).alloc (by simp; omega) _
  have hsz : (((w.alloc (.cells #[.slice none 0 0] 62)).alloc (.cells #[.int .i64 0] 3)).alloc (.cells #[.slice ao b.length c] 23)).heap.size = w.heap.size + 3 := by simp
  generalize ((w.alloc (.cells #[.slice none 0 0] 62)).alloc (.cells #[.int .i64 0] 3)).alloc (.cells #[.slice ao b.length c] 23) = W0 at *
  have hTW : ∀ W, Below w.heap.size W0 W → Tab9 W := fun W hW => hT.below (hB0.trans hW)
  have hRW : ∀ W, Below w.heap.size W0 W → RB W (.slice ao b.length c) b := fun W hW => h.below (hB0.trans hW)
  refine range_held rfl (by omega) (gf := 83) (lb := #[.pointer (some ⟨w.heap.size + 1 + 1, 0, none⟩)]) rfl trivial (enters_of Tryd.func83 (by kernel_rfl) rfl)
    (frames1_held 2 (by omega) (w.heap.size + 1 + 1) w.heap.size ao c b hl W0 (by omega) k1 hTW hRW) KpR.trans (KpR.put (by omega)) (fun _ => rfl)
    (IRx9 w W0.heap.size) (IRx9.own (by omega)) XR.own ⟨⟨⟨by decide, _, kO, World.ownsRow_nil _ _ _ _, fun x hx => (nomatch hx)⟩, kE⟩, hB0, Nat.le_refl _⟩
    (fun x => { tmps := #[.slice ao b.length c, undef, .pointer (some ⟨w.heap.size, 0, none⟩), .pointer (some ⟨w.heap.size + 1, 0, none⟩), .slice x.ao x.l.length x.c, .int .i64 (x.e : Nat), .slice ao b.length c, .func (.func 83) #[] #[.pointer (some ⟨w.heap.size + 1 + 1, 0, none⟩)], .slice x.ao x.l.length x.c, .int .i64 (x.e : Nat), undef, undef, undef, undef, undef, undef, undef], defers := [] }) ?assign ?body ?done
  case assign =>
    intro l x W K hK
    simp only [RX.enc]
    gi_wp2
    exact hK
  case body =>
    rintro l pre x W ⟨⟨⟨hpl, u, hv, hrow⟩, he⟩, hB, hz⟩ ⟨hx1, hx2, hx3, hx4⟩
    have hc := hv.cell
    have hfl := flR_len (pre.map RX.l ++ [x.l])
    rw [← hx3, List.length_append, List.length_map, List.length_singleton] at hfl
    have hfl2 : 5 * (pre.length + 1) ≤ 100000000000 := by omega
    have HX1 := Lib.hid hx1
    have HX3 := Lib.hid hx3
    have HRow := Lib.hid hrow
    have hne1 := he.not_row (by decide) hrow.1
    have hne2 := hv.not_row (by decide) hrow.1
    clear hx1 hx3 hfl
    gi_wp2_with (gi_at_builtin; refine wpListIn_append_own _ rfl _ _ 62 rfl W0.heap.size 23 i0 (.slice none 0 0) 1 24 Tryd.underlying62 hi hz0 hz1 hz2 rfl (by decide) u pre.length (rxs pre) rfl (hrow.1.alloc _) ⟨W.heap.size, 0, none⟩ 1 1 [.slice x.ao x.l.length x.c] rfl rfl (cell_one_new _ _ _) (by simp [Value.oneCell']) (by unfold maxLen; omega) (by omega) (by simp; omega) ?_; intro v' w1 hown' hgrow _; obtain ⟨g', cap', rfl⟩ := ownsRow_succ hown'; obtain ⟨hv1, hv2, hr2, hk2, hb2⟩ := hv.appended (by decide) (row_mono hrow.1 (show w.heap.size ≤ W0.heap.size by omega)) hB.size (Nat.le_refl _) (row_mono hown' (show w.heap.size ≤ W0.heap.size by omega)) hgrow; have hc1 := hv1.cell; have hf1 := hv1.frozen; have he1 : Boxed w1 (w.heap.size + 1) 3 _ := (he.alloc _).kept hgrow hne1; have he2 := he1.other (B' := w.heap.size) (by omega) (.slice (some ⟨g', 0, none⟩) (pre.length + 1) cap'); have hd1 := he2.cell; have hg1 := he2.frozen)
    have e1 : w1.heap[w.heap.size + 1 + 1]? = (W.alloc (.cells #[.slice x.ao x.l.length x.c] 23)).heap[w.heap.size + 1 + 1]? := hgrow.block _ (by simp; omega) (fun e => by have := (World.ownsRow.lt hrow.1 _ e.symm).1; omega)
    have e2 : ((w1.setCell ⟨w.heap.size, 0, none⟩ (.slice (some ⟨g', 0, none⟩) (pre.length + 1) cap')).setCell ⟨w.heap.size + 1, 0, none⟩ (.int .i64 (x.e : Nat))).heap[w.heap.size + 1 + 1]? = W.heap[w.heap.size + 1 + 1]? := (Below.heap_setCell _ _ _ _ (show w.heap.size + 1 + 1 ≠ w.heap.size + 1 by omega)).trans ((Below.heap_setCell _ _ _ _ (show w.heap.size + 1 + 1 ≠ w.heap.size by omega)).trans (e1.trans (Below.heap_alloc _ _ _ (by omega))))
    have hb3 := hb2.setCell (p := ⟨w.heap.size + 1, 0, none⟩) (Nat.le_succ _) (.int .i64 (x.e : Nat))
    have keep : ∀ (y : Value) (m : List UInt8), OB W W0.heap.size y m → OB ((w1.setCell ⟨w.heap.size, 0, none⟩ (.slice (some ⟨g', 0, none⟩) (pre.length + 1) cap')).setCell ⟨w.heap.size + 1, 0, none⟩ (.int .i64 (x.e : Nat))) W0.heap.size y m := fun y m hy => by
      have a1 := (hy.alloc (.cells #[.slice x.ao x.l.length x.c] 23)).kept hgrow (ob_row9 hy hrow.1)
      have a2 := a1.kept (grownBy_setCell' w1 w.heap.size (.slice (some ⟨g', 0, none⟩) (pre.length + 1) cap')) (.inr (fun e => by have := (a1.lt e).1; omega))
      exact a2.kept (grownBy_setCell' _ (w.heap.size + 1) _) (.inr (fun e => by have := (a2.lt e).1; omega))
    refine ⟨(hk2.trans (KeepsOthers.setCell _ _ _)).from _, ⟨hb3, fun vv hvv => ?_⟩, ⟨⟨by rw [List.length_append]; exact hfl2, _, hv2.other (by omega) _, ?_, fun y hy => ?_⟩, ?_⟩, hB.trans hb3, Nat.le_trans hz hb3.size⟩
    · rw [← hvv]
      unfold World.cell?
      simp only [e2]
    · rw [rxs_snoc, List.length_append]
      have a2 := hown'.kept (grownBy_setCell' w1 w.heap.size (.slice (some ⟨g', 0, none⟩) (pre.length + 1) cap')) (.inr (fun e => by have := (World.ownsRow.lt hown' _ e).1; omega))
      exact a2.kept (grownBy_setCell' _ (w.heap.size + 1) _) (.inr (fun e => by have := (World.ownsRow.lt a2 _ e).1; omega))
    · rw [List.mem_append] at hy
      rcases hy with hy | hy
      · exact ⟨keep _ _ (hrow.2 y hy).1, (hrow.2 y hy).2⟩
      · obtain rfl : y = x := by simpa using hy
        exact ⟨keep _ _ HX1.out, hx2⟩
    · rw [List.map_append, List.map_singleton, ← HX3.out]
      exact he2.set _
  case done =>
    rintro D xs W hD hS ⟨⟨⟨hpl, u, hv, hrow⟩, he⟩, hB, hz⟩ hK
    obtain ⟨ua, uc, rfl, _⟩ := row_shape hrow.1
    have hc := hv.cell
    have hd := he.cell
    have hf := hv.frozen
    have hg := he.frozen
    gi_wp2
    gi_region
    gi_wp2
    have hDz : w.heap.size + 3 ≤ D := by omega
    have q1 : Boxed (((W.setCell ⟨w.heap.size, 0, none⟩ (.slice ua xs.length uc)).setCell ⟨w.heap.size + 1, 0, none⟩ (.int .i64 ((flR (xs.map RX.l)).length : Nat))).drew) w.heap.size 62 (.slice ua xs.length uc) := (hv.set _).other (by omega) _
    have q2 : Boxed (((W.setCell ⟨w.heap.size, 0, none⟩ (.slice ua xs.length uc)).setCell ⟨w.heap.size + 1, 0, none⟩ (.int .i64 ((flR (xs.map RX.l)).length : Nat))).drew) (w.heap.size + 1) 3 (.int .i64 ((flR (xs.map RX.l)).length : Nat)) := (he.other (by omega) _).set _
    have q3 : (((W.setCell ⟨w.heap.size, 0, none⟩ (.slice ua xs.length uc)).setCell ⟨w.heap.size + 1, 0, none⟩ (.int .i64 ((flR (xs.map RX.l)).length : Nat))).drew).heap[D]? = some (.deferred (some [])) := (Below.heap_setCell _ _ _ _ (show D ≠ w.heap.size + 1 by omega)).trans ((Below.heap_setCell _ _ _ _ (show D ≠ w.heap.size by omega)).trans hK)
    have q4 : Below w.heap.size w (((W.setCell ⟨w.heap.size, 0, none⟩ (.slice ua xs.length uc)).setCell ⟨w.heap.size + 1, 0, none⟩ (.int .i64 ((flR (xs.map RX.l)).length : Nat))).drew) := ((hB.setCell (p := ⟨w.heap.size, 0, none⟩) (Nat.le_refl _) _).setCell (p := ⟨w.heap.size + 1, 0, none⟩) (Nat.le_succ _) _).drew
    have put : ∀ (y : Value) (e : TypeId) (n : Nat) (zs : List Value), W.ownsRow W0.heap.size e 1 y n zs → (((W.setCell ⟨w.heap.size, 0, none⟩ (.slice ua xs.length uc)).setCell ⟨w.heap.size + 1, 0, none⟩ (.int .i64 ((flR (xs.map RX.l)).length : Nat))).drew).ownsRow W0.heap.size e 1 y n zs := fun y e n zs hy => by
      have a2 := hy.kept (grownBy_setCell' W w.heap.size (.slice ua xs.length uc)) (.inr (fun e => by have := (World.ownsRow.lt hy w.heap.size e).1; omega))
      have a3 := a2.kept (grownBy_setCell' (W.setCell ⟨w.heap.size, 0, none⟩ (.slice ua xs.length uc)) (w.heap.size + 1) (.int .i64 ((flR (xs.map RX.l)).length : Nat))) (.inr (fun e => by have := (World.ownsRow.lt a2 (w.heap.size + 1) e).1; omega))
      exact a3
    have q5 := put _ _ _ _ hrow.1
    have q6 := fun x hx => put _ _ _ _ (hrow.2 x hx).1
    generalize ((W.setCell ⟨w.heap.size, 0, none⟩ (.slice ua xs.length uc)).setCell ⟨w.heap.size + 1, 0, none⟩ (.int .i64 ((flR (xs.map RX.l)).length : Nat))).drew = W2 at *
    refine ⟨by simp, .inl ⟨_, _, rfl, run_takeDeferred q3, ?_⟩⟩
    have hr : ∀ r, some D = some r → ∃ o : Obj, W2.heap[r]? = some o ∧ o.isCells = false := fun r e => by cases e; exact ⟨_, q3, rfl⟩
    have r1 := box_own9 q1 (grownBy_putObj' W2 D (.deferred none)) hr
    have r2 := box_own9 q2 (grownBy_putObj' W2 D (.deferred none)) hr
    refine ⟨_, results_cells9 (p := 2) (q := 3) rfl rfl rfl r1.cell r2.cell, xs, _, hS, rfl, ⟨row_mono (row_own9 q5 (grownBy_putObj' W2 D (.deferred none)) hr) (by omega), fun x hx => ⟨row_mono (row_own9 (q6 x hx) (grownBy_putObj' W2 D (.deferred none)) hr) (by omega), (hrow.2 x hx).2⟩⟩, q4.trans (belowK_b (w := w) (Nat.le_refl _) W2 D _ _ (by omega) q3 rfl rfl)⟩
theorem scan_any {w : World} {ao : Option Addr} {c : Nat} {b : List UInt8} (hT : Tab9 w) (h : RB w (.slice ao b.length c) b) (hl : b.length ≤ 100000000000) :
    Calls Tryd.prog 54 #[.slice ao b.length c] w (ScanOut w b) := callsIn_wide.1 (scan_in9 hT h hl)
end Go.Proofs.YtmhklmecpbdljaaDoor
