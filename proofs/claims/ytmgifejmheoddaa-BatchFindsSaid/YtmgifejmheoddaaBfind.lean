/- (batch.Batch).Find: the last op of a key. -/
import Derived.Test.YtmgifejmheoddaaBback
import Derived.Test.YtmgifejmheoddaaBat2
namespace Go.Proofs.Ytmgifejmheoddaa
open Go.RowKit Go.Shelf
set_option linter.unusedVariables false
set_option linter.unusedSimpArgs false
attribute [local go_sem] Oper.semAt_some

theorem heap_new_at {w : World} {o : Obj} {g : Nat} (h : g = w.heap.size) : (w.alloc o).heap[g]? = some o := by subst h; exact heap_alloc_new w o
theorem blk_own {β : Type} (B : Nat) (f : β → Obj) (hc : ∀ s, (f s).isCells = true) : Own (fun s W => W.heap[B]? = some (f s)) := fun s X Y row hs hg hrow =>
  (grownBy_keeps_cells hg hrow hs (hc s)).trans hs

set_option maxRecDepth 100000 in
set_option maxHeartbeats 1000000 in
/-- .. at the nil slice: no round. -/
theorem back1_nil_in (F : Fence) (n : Nat) (h8 : F.fn 42) (hro : F.round = none) (l Bs : Nat) (a : Option Addr) (cap : Nat) (J : List (Nat × OpD) → World → Prop) (W : World) (hBs : W.cell? ⟨Bs, 0, none⟩ = some (.slice a 0 cap)) (h0 : J [] W) :
    CallsIn F n Try.prog 42 #[.func (.yield l) #[] #[], .pointer (some ⟨Bs, 0, none⟩)] W fun e W' => (∃ v, e = .returned v) ∧ J [] W' := by
  refine callsIn_of_wp Try.func42 rfl h8 ?_ hro
  simp only [Try.ntmps42, List.size_toArray, List.length_cons, List.length_nil, Nat.reduceAdd, Nat.reduceSub, Array.replicate_succ, Array.replicate_zero, List.push_toArray, List.append_toArray, List.nil_append, List.cons_append]
  gi_wp2
  gi_loopw [3] (fun i wr => i = .int .i64 (-1) ∧ J [] wr) (fun _ _ => 0)
  case atStart => exact ⟨rfl, h0⟩
  case round =>
    obtain ⟨rfl, hJs⟩ := hrel
    gi_wp2
    go_end0
    exact ⟨⟨_, rfl⟩, hJs⟩

set_option maxHeartbeats 1000000 in
theorem back_in (F : Fence) (n : Nat) (h5 : F.fn 28) (hro : F.round = none) (a : Option Addr) (len cap : Nat) (w : World) :
    CallsIn F n Try.prog 28 #[.slice a len cap] w fun e w' => e = .returned (.func (.func 42) #[] #[.pointer (some ⟨w.heap.size, 0, none⟩)]) ∧ w' = w.alloc (.cells #[.slice a len cap] 22) := by
  refine callsIn_of_wp Try.func28 rfl h5 ?_ hro
  simp only [Try.ntmps28, List.size_toArray, List.length_cons, List.length_nil, Nat.reduceAdd, Nat.reduceSub, Array.replicate_succ, Array.replicate_zero, List.push_toArray, List.append_toArray, List.nil_append, List.cons_append]
  gi_wp2
  go_ret
  exact ⟨rfl, rfl⟩

theorem opAtB_get {l : List OpD} {j : Nat} (h : j < l.length) : opAtB l j = l[j] := by
  unfold opAtB; rw [List.getD, List.getElem?_eq_getElem h]; rfl

theorem back_stops (F : Fence) (n : Nat) (h8 : F.fn 42) (hro : F.round = none) (hn : 1 ≤ n) (Bs : Nat) (a : Option Addr) (cap : Nat) (ops : List OpD) (hlen : ops.length ≤ maxLen) (w : World) (hBs : Bs < w.heap.size)
    (hc : w.cell? ⟨Bs, 0, none⟩ = some (.slice a ops.length cap)) (hI : OPs w a ops) :
    SeqStopsK F n Try.prog 42 #[.pointer (some ⟨Bs, 0, none⟩)] (fun x : Nat × OpD => #[Value.int .i64 (x.1 : Int), .agg #[.int .i64 x.2.kind, .string x.2.key, .string x.2.val]]) (Below w.heap.size) (fun ys => ys = upto (backF ops) ops.length)
      (fun pre => ∃ k, k ≤ ops.length ∧ pre = upto (backF ops) k) ops.length w := fun l J Jx W hW _ _ hY h0 => by
  have hc' := (hW.cell (p := ⟨Bs, 0, none⟩) hBs).trans hc
  rcases Nat.eq_zero_or_pos ops.length with hz | hz
  · have he : ops = [] := List.eq_nil_of_length_eq_zero hz
    subst he
    exact (back1_nil_in F n h8 hro l Bs a cap J W hc' h0).mono fun e W' ⟨he, hj⟩ => ⟨he, .inl ⟨_, rfl, hj⟩⟩
  · obtain ⟨b, off, rfl, hcell⟩ := hI.1 hz
    have hb : b < w.heap.size := World.block_lt_of_cell? w _ (hcell 0 hz).1
    refine back1_in F n h8 hro hn l Bs w.heap.size b off cap ops hlen hb J Jx hY W hc' (fun j hj => ?_) hBs h0
    obtain ⟨d0, d1, d2⟩ := hcell j hj
    rw [opAtB_get hj]
    exact ⟨(hW.cell (p := ⟨b, off + j * 3, none⟩) hb).trans d0, (hW.cell (p := ⟨b, off + j * 3 + 1, none⟩) hb).trans d1, (hW.cell (p := ⟨b, off + j * 3 + 2, none⟩) hb).trans d2⟩

theorem upto_mem {α : Type} (f : Nat → α) {j k : Nat} (h : j < k) : f j ∈ upto f k := by
  simp only [upto, List.mem_map, List.mem_range]; exact ⟨j, h, rfl⟩
theorem backF_at {l : List OpD} {j : Nat} (h : j < l.length) : backF l (l.length - 1 - j) = (j, opAtB l j) := by
  unfold backF; rw [show l.length - 1 - (l.length - 1 - j) = j by omega]
def FindOut (w : World) (l : List OpD) (key : ByteArray) (e : Ending) (w' : World) : Prop :=
  ((e = .returned (.tuple #[.agg #[.int .i64 0, .string ⟨#[]⟩, .string ⟨#[]⟩], .bool false]) ∧ ∀ j, j < l.length → ((opAtB l j).key.toList == key.toList) = false) ∨
   (∃ j, j < l.length ∧ e = .returned (.tuple #[.agg #[.int .i64 (opAtB l j).kind, .string (opAtB l j).key, .string (opAtB l j).val], .bool true]) ∧ ((opAtB l j).key.toList == key.toList) = true ∧ ∀ i, j < i → i < l.length → ((opAtB l i).key.toList == key.toList) = false)) ∧ Below w.heap.size w w'

set_option maxRecDepth 100000 in
set_option maxHeartbeats 4000000 in
theorem find_in (F : Fence) (n : Nat) (h3 : F.fn 16) (h4 : F.fn 28) (h5 : F.fn 42) (hro : F.round = none) (hn : 3 ≤ n) {w : World} {a : Option Addr} {c : Nat} {l : List OpD} (h : OPs w a l) (hl : l.length ≤ maxLen) (seq : Int) (key : ByteArray) :
    CallsIn F n Try.prog 16 #[.agg #[.int .i64 seq, .slice a l.length c], .string key] w (FindOut w l key) := by
  have h1 : 1 ≤ n := by omega
  refine callsIn_of_wp_marks Try.func16 rfl h3 ?_ hro
  simp only [Try.ntmps16, List.size_toArray, List.length_cons, List.length_nil, Nat.reduceAdd, Nat.reduceSub, Array.replicate_succ, Array.replicate_zero, List.push_toArray, List.append_toArray, List.nil_append, List.cons_append]
  gi_wp2_with (gi_at_call 28; refine (back_in F (n - 1) h4 hro _ _ _ _).mono ?_; rintro e w' ⟨rfl, rfl⟩)
  have kK : (((((w.alloc (.cells #[.int .i64 seq, .slice a l.length c] 24)).alloc (.cells #[.string key] 9)).alloc (.cells #[.int .i64 0, .string ⟨#[]⟩, .string ⟨#[]⟩] 26)).alloc (.cells #[.bool false] 4)).alloc (.cells #[.slice a l.length c] 22)).heap[w.heap.size + 1]? = some (.cells #[.string key] 9 (0, 0)) := blk_alloc (blk_alloc (blk_alloc (heap_new_at (by simp)) _) _) _
  have kO : (((((w.alloc (.cells #[.int .i64 seq, .slice a l.length c] 24)).alloc (.cells #[.string key] 9)).alloc (.cells #[.int .i64 0, .string ⟨#[]⟩, .string ⟨#[]⟩] 26)).alloc (.cells #[.bool false] 4)).alloc (.cells #[.slice a l.length c] 22)).heap[w.heap.size + 1 + 1]? = some (.cells #[.int .i64 0, .string ⟨#[]⟩, .string ⟨#[]⟩] 26 (0, 0)) := blk_alloc (blk_alloc (heap_new_at (by simp)) _) _
  have kB : (((((w.alloc (.cells #[.int .i64 seq, .slice a l.length c] 24)).alloc (.cells #[.string key] 9)).alloc (.cells #[.int .i64 0, .string ⟨#[]⟩, .string ⟨#[]⟩] 26)).alloc (.cells #[.bool false] 4)).alloc (.cells #[.slice a l.length c] 22)).heap[w.heap.size + 1 + 1 + 1]? = some (.cells #[.bool false] 4 (0, 0)) := blk_alloc (heap_new_at (by simp)) _
  have kS : (((((w.alloc (.cells #[.int .i64 seq, .slice a l.length c] 24)).alloc (.cells #[.string key] 9)).alloc (.cells #[.int .i64 0, .string ⟨#[]⟩, .string ⟨#[]⟩] 26)).alloc (.cells #[.bool false] 4)).alloc (.cells #[.slice a l.length c] 22)).heap[w.heap.size + 1 + 1 + 1 + 1]? = some (.cells #[.slice a l.length c] 22 (0, 0)) := heap_new_at (by simp)
  have hB0 : Below w.heap.size w (((((w.alloc (.cells #[.int .i64 seq, .slice a l.length c] 24)).alloc (.cells #[.string key] 9)).alloc (.cells #[.int .i64 0, .string ⟨#[]⟩, .string ⟨#[]⟩] 26)).alloc (.cells #[.bool false] 4)).alloc (.cells #[.slice a l.length c] 22)) := (((((Below.refl _ w).alloc (Nat.le_refl _) _).alloc (by simp) _).alloc (by simp; omega) _).alloc (by simp; omega) _).alloc (by simp; omega) _
  have hsz : (((((w.alloc (.cells #[.int .i64 seq, .slice a l.length c] 24)).alloc (.cells #[.string key] 9)).alloc (.cells #[.int .i64 0, .string ⟨#[]⟩, .string ⟨#[]⟩] 26)).alloc (.cells #[.bool false] 4)).alloc (.cells #[.slice a l.length c] 22)).heap.size = w.heap.size + 5 := by simp
  generalize (((((w.alloc (.cells #[.int .i64 seq, .slice a l.length c] 24)).alloc (.cells #[.string key] 9)).alloc (.cells #[.int .i64 0, .string ⟨#[]⟩, .string ⟨#[]⟩] 26)).alloc (.cells #[.bool false] 4)).alloc (.cells #[.slice a l.length c] 22)) = W0 at *
  have hO0 : OPs W0 a l := h.below hB0
  have kSc : W0.cell? ⟨w.heap.size + 1 + 1 + 1 + 1, 0, none⟩ = some (.slice a l.length c) := by rw [cell_of_row _ _ _ _ _ _ kS]; rfl
  refine wpIn_rangeFunc_ownH hro h1 (gf := 42) (lb := #[.pointer (some ⟨w.heap.size + 1 + 1 + 1 + 1, 0, none⟩)]) rfl h5 (enters_of Try.func42 (by kernel_rfl) rfl)
    (back_stops F (n - 1) h5 hro (by omega) (w.heap.size + 1 + 1 + 1 + 1) a c l hl W0 (by omega) kSc hO0) belowK_t (belowK_b (Nat.le_refl _)) (Below.refl _ _) (fun _ => rfl)
    (fun pre W => (∀ p ∈ pre, (p.2.key.toList == key.toList) = false) ∧ Below W0.heap.size W0 W)
    (fun cc pre W => (cc = .ret ∧ ∃ ini last, pre = ini ++ [last] ∧ (∀ p ∈ ini, (p.2.key.toList == key.toList) = false) ∧ (last.2.key.toList == key.toList) = true ∧ W.heap[w.heap.size + 1 + 1]? = some (.cells #[.int .i64 last.2.kind, .string last.2.key, .string last.2.val] 26 (0, 0)) ∧ W.heap[w.heap.size + 1 + 1 + 1]? = some (.cells #[.bool true] 4 (0, 0))) ∧ Below w.heap.size w W)
    (OwnFrom.and (fun s A B row hs _ _ => hs) (ownFrom_below (Nat.le_refl _) (Nat.le_refl _)))
    (fun cc => OwnFrom.and (Own.from (fun s A B row hs hg hr => by obtain ⟨hc, ini, last, e1, e2, e3, e4, e5⟩ := hs; exact ⟨hc, ini, last, e1, e2, e3, (grownBy_keeps_cells hg hr e4 rfl).trans e4, (grownBy_keeps_cells hg hr e5 rfl).trans e5⟩) _) (ownFrom_below (Nat.le_refl _) (by omega)))
    ⟨by simp, Below.refl _ _⟩
    (fun x a' W => ∃ Bx, W0.heap.size ≤ Bx ∧ W.heap[Bx]? = some (.cells #[.int .i64 x.2.kind, .string x.2.key, .string x.2.val] 26 (0, 0)) ∧ a' = { tmps := #[.agg #[.int .i64 seq, .slice a l.length c], .string key, .pointer (some ⟨w.heap.size, 0, none⟩), .pointer (some ⟨w.heap.size + 1, 0, none⟩), .pointer (some ⟨w.heap.size + 1 + 1, 0, none⟩), .pointer (some ⟨w.heap.size + 1 + 1 + 1, 0, none⟩), undef, .pointer (some ⟨Bx, 0, none⟩), .pointer (some ⟨w.heap.size, 1, none⟩), .slice a l.length c, .func (.func 42) #[] #[.pointer (some ⟨w.heap.size + 1 + 1 + 1 + 1, 0, none⟩)], .int .i64 (x.1 : Int), .agg #[.int .i64 x.2.kind, .string x.2.key, .string x.2.val], undef, undef, undef, undef, undef, undef], defers := [] })
    (fun x a' _ X Y row hs hg hr => by obtain ⟨Bx, h1, h2, h3⟩ := hs; exact ⟨Bx, h1, (grownBy_keeps_cells hg (fun r e => (hr r e).2) h2 rfl).trans h2, h3⟩)
    ?assign ?body ?done ?stop
  case assign =>
    rintro lp pre x W K ⟨hp, hB1⟩ hK
    gi_wp2
    exact hK _ _ ((KeepsOthers.alloc _ _).from _) ((Below.refl _ W).alloc hB1.size _) ⟨hp, hB1.alloc hB1.size _⟩ ⟨W.heap.size, hB1.size, heap_alloc_new W _, rfl⟩
  case body =>
    rintro lp pre x a' W _ _ ⟨hp, hB1⟩ ⟨Bx, hBx, bX, rfl⟩ _
    have hK1 := (hB1.block _ (blk_lt kK)).trans kK
    have hO1 := (hB1.block _ (blk_lt kO)).trans kO
    have hB1' := (hB1.block _ (blk_lt kB)).trans kB
    obtain ⟨x0, x1, x2, _⟩ := cell_three bX
    have y0 : W.cell? ⟨w.heap.size + 1, 0, none⟩ = some (.string key) := by rw [cell_of_row _ _ _ _ _ _ hK1]; rfl
    obtain ⟨o0, o1, o2, g0, g1, g2⟩ := cell_three hO1
    have b0 : W.cell? ⟨w.heap.size + 1 + 1 + 1, 0, none⟩ = some (.bool false) := by rw [cell_of_row _ _ _ _ _ _ hB1']; rfl
    have bf : W.frozen? ⟨w.heap.size + 1 + 1 + 1, 0, none⟩ = false := by simp [World.frozen?, hB1']
    cases hkk : (x.2.key.toList == key.toList) with
    | true =>
      gi_wp2
      refine ⟨((((KeepsOthers.setCell _ _ _).from _).trans ((KeepsOthers.setCell _ _ _).from _)).trans ((KeepsOthers.setCell _ _ _).from _)).trans ((KeepsOthers.setCell _ _ _).from _), ⟨rfl, pre, x, rfl, hp, hkk, ?_, ?_⟩, ?_⟩
      · exact blk_chg (heap_set_row (heap_set_row (heap_set_row hO1 0 _) 1 _) 2 _) (Chg.set _ (w.heap.size + 1 + 1 + 1) 0 _) (by omega)
      · exact heap_set_row (blk_chg (blk_chg (blk_chg hB1' (Chg.set _ (w.heap.size + 1 + 1) 0 _) (by omega)) (Chg.set _ (w.heap.size + 1 + 1) 1 _) (by omega)) (Chg.set _ (w.heap.size + 1 + 1) 2 _) (by omega)) 0 _
      · exact ((((hB0.trans (hB1.mono (by omega))).setCell (p := ⟨w.heap.size + 1 + 1, 0, none⟩) (show w.heap.size ≤ w.heap.size + 1 + 1 by omega) _).setCell (p := ⟨w.heap.size + 1 + 1, 1, none⟩) (show w.heap.size ≤ w.heap.size + 1 + 1 by omega) _).setCell (p := ⟨w.heap.size + 1 + 1, 2, none⟩) (show w.heap.size ≤ w.heap.size + 1 + 1 by omega) _).setCell (p := ⟨w.heap.size + 1 + 1 + 1, 0, none⟩) (show w.heap.size ≤ w.heap.size + 1 + 1 + 1 by omega) _
    | false =>
      gi_wp2
      exact ⟨KeepsFrom.refl _ _, Below.refl _ _, ⟨fun p hp' => (List.mem_append.1 hp').elim (hp p) (fun e => by simp at e; subst e; exact hkk), hB1⟩⟩
  case done =>
    rintro D ys W hD rfl ⟨hne, hB⟩ hK
    have hO1 := (hB.block _ (blk_lt kO)).trans kO
    have hB1' := (hB.block _ (blk_lt kB)).trans kB
    obtain ⟨o0, o1, o2, g0, g1, g2⟩ := cell_three hO1
    have b0 : W.cell? ⟨w.heap.size + 1 + 1 + 1, 0, none⟩ = some (.bool false) := by rw [cell_of_row _ _ _ _ _ _ hB1']; rfl
    have bf : W.frozen? ⟨w.heap.size + 1 + 1 + 1, 0, none⟩ = false := by simp [World.frozen?, hB1']
    gi_wp2
    have hK' := blk_chg (blk_chg (blk_chg (blk_chg hK (Chg.set W (w.heap.size + 1 + 1) 0 (.int .i64 0)) (by omega)) (Chg.set _ (w.heap.size + 1 + 1) 1 (.string ⟨#[]⟩)) (by omega)) (Chg.set _ (w.heap.size + 1 + 1) 2 (.string ⟨#[]⟩)) (by omega)) (Chg.set _ (w.heap.size + 1 + 1 + 1) 0 (.bool false)) (by omega)
    have hX := blk_chg (heap_set_row (heap_set_row (heap_set_row hO1 0 (.int .i64 0)) 1 (.string ⟨#[]⟩)) 2 (.string ⟨#[]⟩)) (Chg.set _ (w.heap.size + 1 + 1 + 1) 0 (.bool false)) (by omega)
    have hY := heap_set_row (blk_chg (blk_chg (blk_chg hB1' (Chg.set W (w.heap.size + 1 + 1) 0 (.int .i64 0)) (by omega)) (Chg.set _ (w.heap.size + 1 + 1) 1 (.string ⟨#[]⟩)) (by omega)) (Chg.set _ (w.heap.size + 1 + 1) 2 (.string ⟨#[]⟩)) (by omega)) 0 (.bool false)
    have hBf := ((((hB0.trans (hB.mono (by omega))).setCell (p := ⟨w.heap.size + 1 + 1, 0, none⟩) (show w.heap.size ≤ w.heap.size + 1 + 1 by omega) (.int .i64 0)).setCell (p := ⟨w.heap.size + 1 + 1, 1, none⟩) (show w.heap.size ≤ w.heap.size + 1 + 1 by omega) (.string ⟨#[]⟩)).setCell (p := ⟨w.heap.size + 1 + 1, 2, none⟩) (show w.heap.size ≤ w.heap.size + 1 + 1 by omega) (.string ⟨#[]⟩)).setCell (p := ⟨w.heap.size + 1 + 1 + 1, 0, none⟩) (show w.heap.size ≤ w.heap.size + 1 + 1 + 1 by omega) (.bool false)
    obtain ⟨z0, z1, z2, _⟩ := cell_three hX
    have z3 := Boxed.cell (show Boxed _ _ _ (.bool false) from hY)
    refine ⟨by simp, .inl ⟨_, _, rfl, run_takeDeferred hK', ?_⟩⟩
    have kc := fun (p : Addr) (v : Value) (hc : World.cell? _ p = some v) => cell_kept hc (grownBy_putObj' _ D (.deferred none)) (fun r e => by cases e; exact ⟨_, hK', rfl⟩)
    have q0 := kc _ _ z0
    have q1 := kc _ _ z1
    have q2 := kc _ _ z2
    have q3 := kc _ (.bool false) z3
    refine ⟨.tuple #[.agg #[.int .i64 0, .string ⟨#[]⟩, .string ⟨#[]⟩], .bool false], ?_, .inl ⟨rfl, fun j hj => ?_⟩, hBf.trans (belowK_b (w := w) (Nat.le_refl _) _ D _ _ (by omega) hK' rfl rfl)⟩
    · simp [results, Try.f16, go_sem, q0, q1, q2, q3]
    · have := hne _ (upto_mem (backF l) (show l.length - 1 - j < l.length by omega))
      rw [backF_at hj] at this
      exact this
  case stop =>
    rintro D cc pre W hD ⟨k, hk, rfl⟩ ⟨⟨rfl, ini, last, e1, e2, e3, e4, e5⟩, hB⟩ hK
    gi_wp2
    obtain ⟨z0, z1, z2, _⟩ := cell_three e4
    have z3 := Boxed.cell (show Boxed _ _ _ (.bool true) from e5)
    refine ⟨by simp, .inl ⟨_, _, rfl, run_takeDeferred hK, ?_⟩⟩
    have kc := fun (p : Addr) (v : Value) (hc : World.cell? _ p = some v) => cell_kept hc (grownBy_putObj' _ D (.deferred none)) (fun r e => by cases e; exact ⟨_, hK, rfl⟩)
    have q0 := kc _ _ z0
    have q1 := kc _ _ z1
    have q2 := kc _ _ z2
    have q3 := kc _ (.bool true) z3
    obtain ⟨k', rfl⟩ : ∃ k', k = k' + 1 := by
      cases k with
      | zero => simp [upto] at e1
      | succ k' => exact ⟨k', rfl⟩
    rw [upto_succ] at e1
    obtain ⟨rfl, e6⟩ := List.append_inj' e1 rfl
    obtain rfl : backF l k' = last := by simpa using e6
    have hj : l.length - 1 - k' < l.length := by omega
    refine ⟨.tuple #[.agg #[.int .i64 (opAtB l (l.length - 1 - k')).kind, .string (opAtB l (l.length - 1 - k')).key, .string (opAtB l (l.length - 1 - k')).val], .bool true], ?_, .inr ⟨l.length - 1 - k', hj, rfl, e3, fun i hi hil => ?_⟩, hB.trans (belowK_b (w := w) (Nat.le_refl _) W D _ _ (by omega) hK rfl rfl)⟩
    · unfold backF at q0 q1 q2
      simp [results, Try.f16, go_sem, q0, q1, q2, q3]
    · have := e2 _ (upto_mem (backF l) (show l.length - 1 - i < k' by omega))
      rw [backF_at hil] at this
      exact this
theorem find_any {w : World} {a : Option Addr} {c : Nat} {l : List OpD} (h : OPs w a l) (hl : l.length ≤ maxLen) (seq : Int) (key : ByteArray) :
    Calls Try.prog 16 #[.agg #[.int .i64 seq, .slice a l.length c], .string key] w (FindOut w l key) :=
  callsIn_wide.1 (find_in Fence.wide 3 trivial trivial trivial rfl (Nat.le_refl _) h hl seq key)
end Go.Proofs.Ytmgifejmheoddaa
