/- The document's table (layer 8): what its functions do. -/
import Derived.Test.YtcgjkgcafkcgoaaAr1
namespace Go.Proofs.Ytcgjkgcafkcgoaa
open Go.RowKit
set_option linter.unusedVariables false
set_option linter.unusedSimpArgs false

structure RT (w : World) (B x g : Nat) (R : List Int) (v : Value) (Q : List Int) : Prop where
  box : w.heap[x]? = some (.cells #[.slice (some ⟨g, 0, none⟩) R.length R.length, v] 51 (0, 0))
  row : w.ownsRow B 3 1 (.slice (some ⟨g, 0, none⟩) R.length R.length) R.length (ivs R)
  q : OR w B v Q
  low : B ≤ x
  rl : R.length ≤ 64
  ne : g ≠ x
  vx : v.ownBlock ≠ some x
  vg : v.ownBlock ≠ some g
section
variable {w w' : World} {B x g : Nat} {R : List Int} {v : Value} {Q : List Int}
theorem RT.lt (h : RT w B x g R v Q) : ∀ k, fpT x g v k → B ≤ k ∧ k < w.heap.size := by
  rintro k (rfl | rfl | hk)
  · exact ⟨h.low, blk_lt h.box⟩
  · exact World.ownsRow.lt h.row _ rfl
  · exact h.q.lt k hk
theorem RT.chg {G : Nat → Prop} (h : RT w B x g R v Q) (hc : Chg G w w') (hd : ∀ k, fpT x g v k → ¬ G k) : RT w' B x g R v Q :=
  ⟨blk_chg h.box hc (hd x (.inl rfl)), row_same h.row fun k hk => by
      have e : g = k := by simpa [Value.ownBlock] using hk
      subst e
      exact hc.block g (World.ownsRow.lt h.row _ rfl).2 (hd g (.inr (.inl rfl))), h.q.same fun k hk => hc.block k (h.q.lt k hk).2 (hd k (.inr (.inr hk))), h.low, h.rl, h.ne, h.vx, h.vg⟩
theorem RT.cell (h : RT w B x g R v Q) (j : Nat) (hj : j < R.length) : w.cell? ⟨g, j, none⟩ = some (.int .i64 R[j]) := by
  rw [World.ownsRow.cellAt h.row j (by omega)]
  simp [ivs, hj]
theorem RT.fz (h : RT w B x g R v Q) (j : Nat) : w.frozen? ⟨g, j, none⟩ = false := World.ownsRow.frozenAt h.row j
theorem RT.set (h : RT w B x g R v Q) (j : Nat) (y : Int) : RT (w.setCell ⟨g, j, none⟩ (.int .i64 y)) B x g (R.set j y) v Q := by
  refine ⟨?_, ?_, h.q.same fun k hk => (Chg.set w g j _).block k (h.q.lt k hk).2 (fun e => h.vg (by rw [hk, e])), h.low, by rw [List.length_set]; exact h.rl, h.ne, h.vx, h.vg⟩
  · rw [List.length_set]; exact blk_chg h.box (Chg.set w g j _) (fun e => h.ne e.symm)
  · have := (World.ownsRow.stored h.row j (.int .i64 y)).1
    rw [ivs_set, List.length_set]
    exact this
theorem RT.putQ (h : RT w B x g R v Q) {v1 : Value} {Q1 : List Int} (ho : OR w B v1 Q1) (h1 : ∀ k, v1.ownBlock = some k → v.ownBlock = some k ∨ ¬ fpT x g v k) : RT (w.setCell ⟨x, 1, none⟩ v1) B x g R v1 Q1 := by
  have hp : v1.ownBlock ≠ some x := fun e => by
    rcases h1 x e with h2 | h2
    · exact h.vx h2
    · exact h2 (.inl rfl)
  have hg : v1.ownBlock ≠ some g := fun e => by
    rcases h1 g e with h2 | h2
    · exact h.vg h2
    · exact h2 (.inr (.inl rfl))
  refine ⟨heap_set1z h.box, row_same h.row fun k hk => ?_, ho.same fun k hk => (Chg.set w x 1 v1).block k (ho.lt k hk).2 (fun e => hp (by rw [hk, e])), h.low, h.rl, h.ne, hp, hg⟩
  have e : g = k := by simpa [Value.ownBlock] using hk
  subst e
  exact (Chg.set w x 1 v1).block g (World.ownsRow.lt h.row _ rfl).2 h.ne
end
def XT (w : World) (B x g : Nat) (F : Nat → Prop) (R Q : List Int) : Prop := ∃ v, RT w B x g R v Q ∧ ∀ k, F k ↔ fpT x g v k
def XOut (w : World) (B x g : Nat) (F : Nat → Prop) (R Q : List Int) (w' : World) : Prop := (∃ F', XT w' B x g F' R Q ∧ ∀ k, F' k → F k ∨ w.heap.size ≤ k) ∧ Chg F w w'
section
variable {w w' : World} {B x g : Nat} {F : Nat → Prop} {R Q : List Int}
theorem XT.ge (h : XT w B x g F R Q) : ∀ k, F k → B ≤ k ∧ k < w.heap.size := by
  obtain ⟨v, hT, hF⟩ := h
  exact fun k hk => hT.lt k ((hF k).1 hk)
theorem XT.room (h : XT w B x g F R Q) : B ≤ w.heap.size := by
  obtain ⟨v, hT, hF⟩ := h
  have := hT.lt x (.inl rfl); omega
theorem XT.chg {E : Nat → Prop} (h : XT w B x g F R Q) (hc : Chg E w w') (hd : ∀ k, F k → ¬ E k) : XT w' B x g F R Q := by
  obtain ⟨v, hT, hF⟩ := h
  exact ⟨v, hT.chg hc fun k hk => hd k ((hF k).2 hk), hF⟩
theorem XT.below (h : XT w B x g F R Q) (hb : Below w.heap.size w w') : XT w' B x g F R Q := h.chg (E := fun _ => False) (Chg.of_below hb) fun _ _ h => h
theorem XOut.below (h : XOut w B x g F R Q w') (h0 : ∀ k, F k → B ≤ k ∧ k < w.heap.size) (hB : B ≤ w.heap.size) : Below B w w' := h.2.below (fun k hk => (h0 k hk).1) hB
theorem XOut.same (h : XT w B x g F R Q) : XOut w B x g F R Q w := ⟨⟨F, h, fun k hk => .inl hk⟩, Chg.refl _ _⟩
theorem XT.turn {v v' : Value} {R' Q' : List Int} (hT : RT w B x g R v Q) (hF : ∀ k, F k ↔ fpT x g v k) (hT' : RT w' B x g R' v' Q') (hc : Chg (fpT x g v) w w') (hf : ∀ k, v'.ownBlock = some k → v.ownBlock = some k ∨ w.heap.size ≤ k) : XOut w B x g F R' Q' w' := by
  refine ⟨⟨fun k => fpT x g v' k, ⟨v', hT', fun k => Iff.rfl⟩, fun k hk => ?_⟩, hc.mono fun k hk => (hF k).2 hk⟩
  rcases hk with h | h | h
  · exact .inl ((hF k).2 (.inl h))
  · exact .inl ((hF k).2 (.inr (.inl h)))
  · rcases hf k h with h1 | h1
    · exact .inl ((hF k).2 (.inr (.inr h1)))
    · exact .inr h1
set_option maxHeartbeats 1000000 in
theorem XT.has (h : XT w B x g F R Q) (z : Int) (b : Bool) (hb : decide (0 ≤ z ∧ z < R.length) = b) :
    Calls Try.prog 41 #[.pointer (some ⟨x, 0, none⟩), .int .i64 z] w fun e w' => e = .returned (.bool b) ∧ w = w' := by
  obtain ⟨v, hT, hF⟩ := h
  obtain ⟨k0, k1, f0, f1⟩ := cell_pair hT.box
  clear hT hF
  subst hb
  by_cases h1 : 0 ≤ z
  · by_cases h2 : z < R.length
    · have hd : decide (0 ≤ z ∧ z < R.length) = true := decide_eq_true ⟨h1, h2⟩
      have hd2 : decide (z < (R.length : Int)) = true := decide_eq_true h2
      rw [hd]
      clear hd h2
      go_enter Try.func41, Try.ntmps41
      go_wp2
      go_ret
      exact ⟨rfl, rfl⟩
    · have hd : decide (0 ≤ z ∧ z < R.length) = false := decide_eq_false fun h => h2 h.2
      have hd2 : decide (z < (R.length : Int)) = false := decide_eq_false h2
      rw [hd]
      clear hd h2
      go_enter Try.func41, Try.ntmps41
      go_wp2
      go_ret
      exact ⟨rfl, rfl⟩
  · have hd : decide (0 ≤ z ∧ z < R.length) = false := decide_eq_false fun h => h1 h.1
    rw [hd]
    clear hd
    go_enter Try.func41, Try.ntmps41
    go_wp2
    go_ret
    exact ⟨rfl, rfl⟩
set_option maxHeartbeats 1000000 in
theorem XT.take_bad (h : XT w B x g F R Q) (r : Int) (hr : ¬ (1 ≤ r ∧ r ≤ 5)) :
    Calls Try.prog 23 #[.pointer (some ⟨x, 0, none⟩), .int .i64 r] w fun e w' => e = .returned (.tuple #[.int .i64 0, .int .i64 80]) ∧ w = w' := by
  clear h
  have h2 : r < 1 ∨ (1 ≤ r ∧ 5 < r) := by omega
  clear hr
  rcases h2 with h1 | ⟨h1, h2⟩
  · go_enter Try.func23, Try.ntmps23
    go_wp2
    go_ret2
    exact ⟨rfl, rfl⟩
  · have h1' : decide (r < 1) = false := decide_eq_false (by omega)
    go_enter Try.func23, Try.ntmps23
    go_wp2
    go_ret2
    exact ⟨rfl, rfl⟩
set_option maxHeartbeats 2000000 in
theorem XT.take (h : XT w B x g F R Q) (r : Int) (hr : 1 ≤ r ∧ r ≤ 5) :
    Calls Try.prog 23 #[.pointer (some ⟨x, 0, none⟩), .int .i64 r] w fun e w' =>
      (e = .returned (.tuple #[.int .i64 0, .int .i64 81]) ∧ w = w' ∧ ∀ i (h : i < R.length), R[i] ≠ 0) ∨
      (∃ n : Nat, ∃ hn : n < R.length, e = .returned (.tuple #[.int .i64 n, .int .i64 0]) ∧ R[n] = 0 ∧ (∀ i (h : i < R.length), i < n → R[i] ≠ 0) ∧ XOut w B x g F (R.set n r) Q w') := by
  obtain ⟨v, hT, hF⟩ := h
  obtain ⟨k0, k1, f0, f1⟩ := cell_pair hT.box
  have hrl := hT.rl
  have HT := Lib.hid hT
  have HF := Lib.hid hF
  have h1' : decide (r < 1) = false := decide_eq_false (by omega)
  have h2' : decide (5 < r) = false := decide_eq_false (by omega)
  clear hT hF hr
  go_enter Try.func23, Try.ntmps23
  go_wp2
  clear h1' h2'
  go_loopw [6] (fun i wr => ∃ k : Nat, k ≤ R.length ∧ i = .int .i64 k ∧ (∀ i (h : i < R.length), i < k → R[i] ≠ 0) ∧ w = wr) (fun i _ => R.length - (intOf i).toNat)
  case atStart => exact ⟨0, Nat.zero_le _, rfl, fun i _ h => by omega, rfl⟩
  case round =>
    obtain ⟨k, hk, rfl, hall, rfl⟩ := hrel
    have Hall := Lib.hid hall
    clear hall
    by_cases hlt : k < R.length
    · have hc := HT.out.cell k hlt
      have hf := HT.out.fz k
      by_cases hv : R[k] = 0
      · have Hv := Lib.hid hv
        rw [hv] at hc
        have HO : Hid (XOut w B x g F (R.set k r) Q (w.setCell ⟨g, k, none⟩ (.int .i64 r))) := Lib.hid (XT.turn HT.out HF.out (HT.out.set k r) ((Chg.set w g k _).mono fun k e => .inr (.inl e)) fun k hk => .inl hk)
        clear hv
        go_wp2
        go_ret2
        exact .inr ⟨k, hlt, rfl, Hv.out, Hall.out, HO.out⟩
      · have Hv := Lib.hid hv
        have hvb : (R[k] == 0) = false := by rw [beq_eq_false_iff_ne]; exact hv
        have Hx : Hid (∀ i (h : i < R.length), i < k + 1 → R[i] ≠ 0) := Lib.hid fun i hi hik => by
          by_cases e : i = k
          · subst e; exact Hv.out
          · exact Hall.out i hi (by omega)
        clear hv
        go_wp2
        go_roundw
        case rel => exact ⟨k + 1, by omega, by go_num, Hx.out, by first | rfl | trivial⟩
        case measure => simp [intOf]; omega
    · obtain rfl : k = R.length := by omega
      go_wp2
      go_ret2
      exact .inl ⟨rfl, rfl, fun i hi => Hall.out i hi hi⟩
set_option maxHeartbeats 2000000 in
theorem XT.own_no (h : XT w B x g F R Q) (z r : Int) (hz : ¬ (0 ≤ z ∧ z < R.length)) :
    Calls Try.prog 24 #[.pointer (some ⟨x, 0, none⟩), .int .i64 z, .int .i64 r] w fun e w' => e = .returned (.int .i64 70) ∧ w = w' := by
  have Hh := Lib.hid (h.has z false (decide_eq_false hz))
  clear h hz
  go_enter Try.func24, Try.ntmps24
  go_wp2_with fail; (with_reducible refine (Hh.out).mono ?_); rintro e w ⟨rfl, rfl⟩
  go_wp2
  go_ret
  exact ⟨rfl, rfl⟩
set_option maxHeartbeats 2000000 in
theorem XT.own (h : XT w B x g F R Q) (n : Nat) (r : Int) (hn : n < R.length) :
    Calls Try.prog 24 #[.pointer (some ⟨x, 0, none⟩), .int .i64 n, .int .i64 r] w fun e w' =>
      (¬ (R[n] = 0 ∧ 1 ≤ r ∧ r ≤ 5) ∧ e = .returned (.int .i64 80) ∧ w = w') ∨ ((R[n] = 0 ∧ 1 ≤ r ∧ r ≤ 5) ∧ e = .returned (.int .i64 0) ∧ XOut w B x g F (R.set n r) Q w') := by
  have Hh := Lib.hid (h.has n true (decide_eq_true ⟨by omega, by omega⟩))
  obtain ⟨v, hT, hF⟩ := h
  obtain ⟨k0, k1, f0, f1⟩ := cell_pair hT.box
  have hc := hT.cell n hn
  have hf := hT.fz n
  have hrl := hT.rl
  have HO : Hid (XOut w B x g F (R.set n r) Q (w.setCell ⟨g, n, none⟩ (.int .i64 r))) := Lib.hid (XT.turn hT hF (hT.set n r) ((Chg.set w g n _).mono fun k e => .inr (.inl e)) fun k hk => .inl hk)
  clear hT hF
  generalize R[n] = y at *
  have h4 : r < 1 ∨ (1 ≤ r ∧ 5 < r) ∨ ((1 ≤ r ∧ r ≤ 5) ∧ y ≠ 0) ∨ ((1 ≤ r ∧ r ≤ 5) ∧ y = 0) := by omega
  rcases h4 with h1 | ⟨h1, h2⟩ | ⟨h1, h2⟩ | ⟨h1, h2⟩
  · clear HO
    go_enter Try.func24, Try.ntmps24
    go_wp2_with fail; (with_reducible refine (Hh.out).mono ?_); rintro e w ⟨rfl, rfl⟩
    go_wp2
    go_ret
    exact .inl ⟨fun h => by omega, rfl, rfl⟩
  · clear HO
    have h1' : decide (r < 1) = false := decide_eq_false (by omega)
    go_enter Try.func24, Try.ntmps24
    go_wp2_with fail; (with_reducible refine (Hh.out).mono ?_); rintro e w ⟨rfl, rfl⟩
    go_wp2
    go_ret
    exact .inl ⟨fun h => by omega, rfl, rfl⟩
  · clear HO
    have h1' : decide (r < 1) = false := decide_eq_false (by omega)
    have h2' : decide (5 < r) = false := decide_eq_false (by omega)
    have hy : (y != 0) = true := by rw [bne_iff_ne]; exact h2
    have Hy := Lib.hid h2
    clear h1 h2
    go_enter Try.func24, Try.ntmps24
    go_wp2_with fail; (with_reducible refine (Hh.out).mono ?_); rintro e w ⟨rfl, rfl⟩
    go_wp2
    go_ret
    exact .inl ⟨fun h => Hy.out h.1, rfl, rfl⟩
  · have h1' : decide (r < 1) = false := decide_eq_false (by omega)
    have h2' : decide (5 < r) = false := decide_eq_false (by omega)
    have H1 := Lib.hid h1
    subst h2
    clear h1
    go_enter Try.func24, Try.ntmps24
    go_wp2_with fail; (with_reducible refine (Hh.out).mono ?_); rintro e w ⟨rfl, rfl⟩
    go_wp2
    go_ret
    exact .inr ⟨by first | exact ⟨rfl, H1.out⟩ | exact ⟨trivial, H1.out⟩, by first | rfl | trivial, HO.out⟩
set_option maxHeartbeats 2000000 in
theorem XT.release_no (h : XT w B x g F R Q) (z : Int) (hz : ¬ (0 ≤ z ∧ z < R.length)) :
    Calls Try.prog 25 #[.pointer (some ⟨x, 0, none⟩), .int .i64 z] w fun e w' => e = .returned (.int .i64 70) ∧ w = w' := by
  have Hh := Lib.hid (h.has z false (decide_eq_false hz))
  clear h hz
  go_enter Try.func25, Try.ntmps25
  go_wp2_with fail; (with_reducible refine (Hh.out).mono ?_); rintro e w ⟨rfl, rfl⟩
  go_wp2
  go_ret
  exact ⟨rfl, rfl⟩
set_option maxHeartbeats 2000000 in
theorem XT.release_bad (h : XT w B x g F R Q) (n : Nat) (hn : n < R.length) (hu : ¬ (1 ≤ R[n] ∧ R[n] ≤ 5)) :
    Calls Try.prog 25 #[.pointer (some ⟨x, 0, none⟩), .int .i64 n] w fun e w' => e = .returned (.int .i64 80) ∧ w = w' := by
  have Hh := Lib.hid (h.has n true (decide_eq_true ⟨by omega, by omega⟩))
  obtain ⟨v, hT, hF⟩ := h
  obtain ⟨k0, k1, f0, f1⟩ := cell_pair hT.box
  have hc := hT.cell n hn
  have hrl := hT.rl
  clear hT hF
  generalize R[n] = y at *
  have h4 : y < 1 ∨ (1 ≤ y ∧ 5 < y) := by omega
  clear hu
  rcases h4 with h1 | ⟨h1, h2⟩
  · go_enter Try.func25, Try.ntmps25
    go_wp2_with fail; (with_reducible refine (Hh.out).mono ?_); rintro e w ⟨rfl, rfl⟩
    go_wp2
    go_ret
    exact ⟨rfl, rfl⟩
  · have h1' : decide (y < 1) = false := decide_eq_false (by omega)
    go_enter Try.func25, Try.ntmps25
    go_wp2_with fail; (with_reducible refine (Hh.out).mono ?_); rintro e w ⟨rfl, rfl⟩
    go_wp2
    go_ret
    exact ⟨rfl, rfl⟩
/-- a number is appended to the queue, and this is stored -/
theorem RT.app {n : Nat} {v v2 : Value} {w2 : World} (hT : RT w B x g R v Q) (ho : OR w2 B v2 (Q ++ [(n : Int)])) (hc : Chg (fun k => v.ownBlock = some k) w w2) (hl : v2.ownBlock = v.ownBlock ∨ ∃ q, v2.ownBlock = some q ∧ w.heap.size ≤ q) :
    w2.heap[x]? = w.heap[x]? ∧ RT (w2.setCell ⟨x, 1, none⟩ v2) B x g R v2 (Q ++ [(n : Int)]) ∧ Chg (fpT x g v) w (w2.setCell ⟨x, 1, none⟩ v2) ∧ ∀ k, v2.ownBlock = some k → v.ownBlock = some k ∨ w.heap.size ≤ k := by
  have hlies : ∀ k, v2.ownBlock = some k → v.ownBlock = some k ∨ w.heap.size ≤ k := fun k hk => by
    rcases hl with e | ⟨q, e, hq⟩
    · exact .inl (by rw [← e]; exact hk)
    · rw [e] at hk; cases hk; exact .inr hq
  have hvx : v2.ownBlock ≠ some x := fun e => by
    rcases hlies x e with h | h
    · exact hT.vx h
    · have := (hT.lt x (.inl rfl)).2; omega
  have hvg : v2.ownBlock ≠ some g := fun e => by
    rcases hlies g e with h | h
    · exact hT.vg h
    · have := (hT.lt g (.inr (.inl rfl))).2; omega
  have hx2 : w2.heap[x]? = w.heap[x]? := hc.block x (hT.lt x (.inl rfl)).2 hT.vx
  have hg2 : w2.heap[g]? = w.heap[g]? := hc.block g (hT.lt g (.inr (.inl rfl))).2 hT.vg
  refine ⟨hx2, ⟨heap_set1z (by rw [hx2]; exact hT.box), row_same hT.row fun k hk => ?_, ho.same fun k hk => (Chg.set w2 x 1 v2).block k (ho.lt k hk).2 (fun e => hvx (by rw [hk, e])), hT.low, hT.rl, hT.ne, hvx, hvg⟩, (hc.mono fun k hk => .inr (.inr hk)).trans2 (Chg.set w2 x 1 v2) fun i hi e => .inl e, hlies⟩
  have e : g = k := by simpa [Value.ownBlock] using hk
  subst e
  rw [(Chg.set w2 x 1 v2).block g (by have := (hT.lt g (.inr (.inl rfl))).2; have := hc.size; omega) hT.ne, hg2]
set_option maxHeartbeats 4000000 in
theorem XT.release (h : XT w B x g F R Q) (n : Nat) (hn : n < R.length) (hu : 1 ≤ R[n] ∧ R[n] ≤ 5) (hq : Q.length ≤ 100000) :
    Calls Try.prog 25 #[.pointer (some ⟨x, 0, none⟩), .int .i64 n] w fun e w' => e = .returned (.int .i64 0) ∧ XOut w B x g F (R.set n 6) (Q ++ [(n : Int)]) w' := by
  have Hh := Lib.hid (h.has n true (decide_eq_true ⟨by omega, by omega⟩))
  obtain ⟨v, hT, hF⟩ := h
  obtain ⟨k0, k1, f0, f1⟩ := cell_pair hT.box
  have hc := hT.cell n hn
  have hf := hT.fz n
  have hrl := hT.rl
  have HT := Lib.hid hT
  have HF := Lib.hid hF
  clear hT hF
  generalize hy : R[n] = y at *
  clear hy
  have h1' : decide (y < 1) = false := decide_eq_false (by omega)
  have h2' : decide (5 < y) = false := decide_eq_false (by omega)
  clear hu
  go_enter Try.func25, Try.ntmps25
  go_wp2_with fail; (with_reducible refine (Hh.out).mono ?_); rintro e w ⟨rfl, rfl⟩
  go_upto_region 6 with (fail)
  refine gen_wp (fun w' => w' = w.setCell ⟨g, n, none⟩ (.int .i64 6)) rfl ?_
  rintro w1 hw1
  have hT1 : RT w1 B x g (R.set n 6) v Q := by rw [hw1]; exact HT.out.set n 6
  have hc1 : Chg (fpT x g v) w w1 := by rw [hw1]; exact (Chg.set w g n _).mono fun k e => .inr (.inl e)
  clear hw1 k0 k1 f0 f1 hc hf Hh
  obtain ⟨k0, k1, f0, f1⟩ := cell_pair hT1.box
  have HT1 := Lib.hid hT1
  have hbz : B ≤ w1.heap.size := by have := (hT1.lt x (.inl rfl)); omega
  have HY : Hid (∀ v2 w2, OR w2 B v2 (Q ++ [(n : Int)]) → Chg (fun k => v.ownBlock = some k) w1 w2 → (v2.ownBlock = v.ownBlock ∨ ∃ q, v2.ownBlock = some q ∧ w1.heap.size ≤ q) → w2.heap[x]? = some (.cells #[.slice (some ⟨g, 0, none⟩) (R.set n 6).length (R.set n 6).length, v] 51 (0, 0)) ∧ XOut w B x g F (R.set n 6) (Q ++ [(n : Int)]) (w2.setCell ⟨x, 1, none⟩ v2)) := Lib.hid fun v2 w2 ho h2 h3 => by
    obtain ⟨g1, g2, g3, g4⟩ := HT1.out.app ho h2 h3
    refine ⟨by rw [g1]; exact HT1.out.box, XT.turn HT.out HF.out g2 (hc1.trans2 g3 fun i _ h => h) fun k hk => ?_⟩
    rcases g4 k hk with h | h
    · exact .inl h
    · exact .inr (Nat.le_trans hc1.size h)
  have HQ := Lib.hid hT1.q
  obtain ⟨av, cv, rfl, _⟩ := hT1.q.shape
  clear hT1 hc1 HT HF
  go_wp2_with (at_builtin; go_loud (refine wpList_appO rfl (.tmp 37) (.tmp 39) rfl B _ Q rfl HQ.out (n : Int) (by first | rfl | (simp; done) | (simp; rfl)) (by omega) hbz ?_); intro v2 w2 ho2 hc2 hl2 hs2; have hx := HY.out _ _ ho2 hc2 hl2; obtain ⟨a2, c2, rfl⟩ := hs2; obtain ⟨hbx, hxo⟩ := hx; obtain ⟨m0, m1, n0, n1⟩ := cell_pair hbx; have HXO := Lib.hid hxo; clear ho2 hc2 hl2 hbx hxo)
  go_ret
  exact ⟨rfl, HXO.out⟩
set_option maxHeartbeats 4000000 in
theorem XT.list (h : XT w B x g F R Q) (r : Int) :
    Calls Try.prog 29 #[.pointer (some ⟨x, 0, none⟩), .int .i64 r] w fun e w' => ∃ u, e = .returned u ∧ w'.ownsRow w.heap.size 3 1 u (places R r R.length).length (nvs (places R r R.length)) ∧ Below w.heap.size w w' := by
  obtain ⟨v, hT, hF⟩ := h
  have HT := Lib.hid hT
  have hrl := hT.rl
  obtain ⟨k0, k1, f0, f1⟩ := cell_pair hT.box
  have K0 := Lib.hid (cell_next k0)
  obtain ⟨i0, hi, hz0, hz1, hz2⟩ := info_parts infoInt
  clear hT hF k1 f0 f1
  go_enter Try.func29, Try.ntmps29
  go_wp2
  go_loopw [5, 6] (fun u i wr => ∃ k : Nat, k ≤ R.length ∧ i = .int .i64 k ∧ wr.ownsRow w.heap.size 3 1 u (places R r k).length (nvs (places R r k)) ∧ Below w.heap.size w wr) (fun _ i _ => R.length - (intOf i).toNat)
  case atStart => exact ⟨0, Nat.zero_le _, rfl, World.ownsRow_nil _ _ _ _, Below.refl _ _⟩
  case round =>
    obtain ⟨k, hk, rfl, hrow, hbr⟩ := hrel
    have HRow := Lib.hid hrow
    have HB := Lib.hid hbr
    obtain ⟨ua, uc, rfl, huc, _⟩ := row_shape hrow
    have hple := places_le R r k
    have j0 := K0.out _ hbr
    have hwz := hbr.size
    clear hrow k0
    by_cases hlt : k < R.length
    · have hc := cell_next (HT.out.cell k hlt) _ hbr
      have hgd : R.getD k 0 = R[k] := getD_at hlt
      by_cases hv : R[k] = r
      · have hpl : places R r (k + 1) = places R r k ++ [k] := places_yes (by rw [hgd, hv]; exact beq_self_eq_true r)
        have Hpl := Lib.hid hpl
        rw [hv] at hc
        obtain ⟨pn, hpn⟩ : ∃ pn, (places R r k).length = pn := ⟨_, rfl⟩
        have HPn := Lib.hid hpn
        have HRow2 : Hid (wr.ownsRow w.heap.size 3 1 (.slice ua pn uc) pn (nvs (places R r k))) := Lib.hid (by rw [← hpn]; exact HRow.out)
        rw [hpn] at huc hple ⊢
        clear hv hgd hpl hpn hbr
        have HZ : Hid (∀ v' w', w'.ownsRow w.heap.size 3 1 v' (pn + 1) (nvs (places R r k) ++ [.int .i64 (k : Int)]) → App wr w' (.slice ua pn uc) v' → (∃ a c, v' = .slice a (pn + 1) c) ∧ w'.ownsRow w.heap.size 3 1 v' (places R r (k + 1)).length (nvs (places R r (k + 1))) ∧ Below w.heap.size w w') := Lib.hid fun v' w' h1 h2 => by
          obtain ⟨a', c', hv, _⟩ := row_shape h1
          refine ⟨⟨a', c', hv⟩, by rw [Hpl.out, nvs_snoc, List.length_append, HPn.out]; exact h1, HB.out.trans ((Chg.of_app h2).below (fun k hk => (World.ownsRow.lt HRow2.out k hk).1) hwz)⟩
        go_wp2_with (at_builtin; go_loud (refine wpList_appN rfl (.tmp 25) (.tmp 27) 22 3 i0 (.int .i64 0) 1 8 Try.underlying22 hi hz0 hz1 hz2 rfl (by decide) rfl w.heap.size _ pn (nvs (places R r k)) rfl HRow2.out #[.int .i64 (k : Int)] 1 1 (by first | rfl | (simp; done) | (simp; rfl)) rfl (by simp [Value.oneCell']) (by unfold maxLen; omega) (by omega) hwz ?_); intro v7 w7 ho7 _ ha7; have hz7 := HZ.out _ _ ho7 ha7; obtain ⟨⟨a7, c7, rfl⟩, hr7, hb7⟩ := hz7; have HR7 := Lib.hid hr7; have HB7 := Lib.hid hb7; clear ho7 ha7 hr7 hb7)
        go_roundw
        case rel => exact ⟨k + 1, by omega, by go_num, HR7.out, HB7.out⟩
        case measure => simp [intOf]; omega
      · have hpl : places R r (k + 1) = places R r k := places_no (by rw [hgd, beq_eq_false_iff_ne]; exact hv)
        have Hpl := Lib.hid hpl
        have hvb : (R[k] == r) = false := by rw [beq_eq_false_iff_ne]; exact hv
        clear hv hgd hpl
        go_wp2
        go_roundw
        case rel => exact ⟨k + 1, by omega, by go_num, by rw [Hpl.out]; exact HRow.out, HB.out⟩
        case measure => simp [intOf]; omega
    · obtain rfl : k = R.length := by omega
      go_wp2
      go_ret
      exact ⟨_, rfl, HRow.out, HB.out⟩
end
end Go.Proofs.Ytcgjkgcafkcgoaa
