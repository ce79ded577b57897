/- alloc.Table: New, Role, Take, Own; slices.Index of ints. -/
import Derived.Test.YtcgjkgcafkcgoaaRow
import Derived.Test.YtcgjkgcafkcgoaaSep
namespace Go.Proofs.Ytcgjkgcafkcgoaa
open Go.RowKit
set_option linter.unusedVariables false
set_option linter.unusedSimpArgs false

theorem cell_pair {w : World} {p : Nat} {a b : Value} {T : TypeId} (h : w.heap[p]? = some (.cells #[a, b] T (0, 0))) : w.cell? ⟨p, 0, none⟩ = some a ∧ w.cell? ⟨p, 1, none⟩ = some b ∧ w.frozen? ⟨p, 0, none⟩ = false ∧ w.frozen? ⟨p, 1, none⟩ = false := by
  refine ⟨?_, ?_, ?_, ?_⟩
  · rw [cell_of_row _ _ _ _ _ _ h]; rfl
  · rw [cell_of_row _ _ _ _ _ _ h]; rfl
  · simp [World.frozen?, h]
  · simp [World.frozen?, h]
theorem infoInt : (Try.prog.info? 3).map (fun i => (i.zero, i.size, i.bytes)) = some (some (.int .i64 0), 1, 8) := by kernel_rfl
def ivs (l : List Int) : List Value := l.map (Value.int .i64)
theorem ivs_len (l : List Int) : (ivs l).length = l.length := by simp [ivs]
theorem ivs_set (l : List Int) (j : Nat) (x : Int) : ivs (l.set j x) = (ivs l).set j (.int .i64 x) := by simp [ivs]
theorem ivs_append (l m : List Int) : ivs (l ++ m) = ivs l ++ ivs m := by simp [ivs]
/-- make of n ints -/
theorem wpList_mki {w : World} {ops : Array Oper} {rest : List Oper} {o : Oper} {a : Act} {Q : Exit → Act → World → Prop} (hg : o.guard = none) (l c : Operand)
    (ho : o.op = Op.makeSlice 22 l c) (base n : Nat) (hl : a.eval l = .int .i64 n) (hc : a.eval c = .int .i64 n) (hn : n ≤ 10000) (hbase : base ≤ w.heap.size)
    (h : ∀ w', w'.ownsRow base 3 1 (.slice (some ⟨w.heap.size, 0, none⟩) n n) n (ivs (List.replicate n 0)) → Below w.heap.size w w' → wpList Try.prog ops Q rest (a.put o.dst (.slice (some ⟨w.heap.size, 0, none⟩) n n)) w') :
    wpList Try.prog ops Q (o :: rest) a w := by
  obtain ⟨i0, hi, hz0, hz1, hz2⟩ := info_parts infoInt
  refine wpList_make_full w hg l c 22 ho base 3 i0 (.int .i64 0) 1 Try.underlying22 hi hz0 hz1 .i64 .i64 n n n hl hc rfl rfl (by rw [hz2]; omega) (by unfold maxLen; omega) hbase ?_
  intro w' hown hgr
  refine h w' ?_ ⟨hgr.os, hgr.tape, hgr.output, hgr.size, fun k hk => hgr.block k hk (by simp)⟩
  have e : (madeCells (Value.int .i64 0).cells (n * 1)).toList = List.replicate n (.int .i64 0) := by
    rw [Nat.mul_one]; exact toList_madeCells_one _ _
  rw [e] at hown
  have e2 : ivs (List.replicate n 0) = List.replicate n (.int .i64 0) := by simp [ivs]
  rw [e2]
  exact hown

/-- a table at block p: its roles lie in block g -/
def TB (w : World) (B p g : Nat) (R : List Int) (qv : Value) : Prop :=
  w.heap[p]? = some (.cells #[.slice (some ⟨g, 0, none⟩) R.length R.length, qv] 58 (0, 0)) ∧ w.ownsRow B 3 1 (.slice (some ⟨g, 0, none⟩) R.length R.length) R.length (ivs R) ∧ B ≤ p ∧ R.length ≤ 64
theorem TB.ne {w : World} {B p g : Nat} {R : List Int} {qv : Value} (h : TB w B p g R qv) : g ≠ p := by
  obtain ⟨h1, h2, _⟩ := h
  rcases h2.2 with ⟨e, _⟩ | ⟨g', cap, cur, e, _, hh, _⟩
  · cases e
  · cases e
    intro e
    subst e
    rw [hh] at h1
    simp at h1
theorem TB.glt {w : World} {B p g : Nat} {R : List Int} {qv : Value} (h : TB w B p g R qv) : B ≤ g ∧ g < w.heap.size := World.ownsRow.lt h.2.1 g rfl
theorem TB.plt {w : World} {B p g : Nat} {R : List Int} {qv : Value} (h : TB w B p g R qv) : p < w.heap.size := blk_lt h.1
theorem TB.below {w w' : World} {B p g : Nat} {R : List Int} {qv : Value} (h : TB w B p g R qv) (hb : Below w.heap.size w w') : TB w' B p g R qv :=
  ⟨(hb.block p h.plt).trans h.1, row_past h.2.1 hb (Nat.le_refl _), h.2.2.1, h.2.2.2⟩
theorem TB.cell {w : World} {B p g : Nat} {R : List Int} {qv : Value} (h : TB w B p g R qv) (j : Nat) (hj : j < R.length) : w.cell? ⟨g, j, none⟩ = some (.int .i64 R[j]) := by
  rw [World.ownsRow.cellAt h.2.1 j (by omega)]
  simp [ivs, hj]
theorem TB.fz {w : World} {B p g : Nat} {R : List Int} {qv : Value} (h : TB w B p g R qv) (j : Nat) : w.frozen? ⟨g, j, none⟩ = false := World.ownsRow.frozenAt h.2.1 j
theorem TB.set {w : World} {B p g : Nat} {R : List Int} {qv : Value} (h : TB w B p g R qv) (j : Nat) (x : Int) : TB (w.setCell ⟨g, j, none⟩ (.int .i64 x)) B p g (R.set j x) qv := by
  refine ⟨?_, ?_, h.2.2.1, by rw [List.length_set]; exact h.2.2.2⟩
  · rw [List.length_set]; exact blk_chg h.1 (Chg.set w g j _) (fun e => h.ne e.symm)
  · have := (World.ownsRow.stored h.2.1 j (.int .i64 x)).1
    rw [ivs_set, List.length_set]
    exact this

set_option maxHeartbeats 1000000 in
theorem alnew_bad (n : Int) (w : World) (h : n < 1 ∨ 64 < n) :
    Calls Try.prog 8 #[.int .i64 n] w fun e w' => e = .returned (.pointer none) ∧ w = w' := by
  rcases h with h | h
  · go_enter Try.func8, Try.ntmps8
    go_wp2
    go_ret
    exact ⟨rfl, rfl⟩
  · have h1 : 1 ≤ n := by omega
    go_enter Try.func8, Try.ntmps8
    go_wp2
    go_ret
    exact ⟨rfl, rfl⟩
set_option maxHeartbeats 1000000 in
theorem alnew (n : Nat) (w : World) (h1 : 1 ≤ n) (h2 : n ≤ 64) :
    Calls Try.prog 8 #[.int .i64 n] w fun e w' => ∃ p g, e = .returned (.pointer (some ⟨p, 0, none⟩)) ∧ TB w' w.heap.size p g (List.replicate n 0) (.slice none 0 0) ∧ Below w.heap.size w w' := by
  go_enter Try.func8, Try.ntmps8
  go_wp2_with (at_make; refine wpList_mki rfl (.tmp 9) (.tmp 9) rfl w.heap.size n rfl rfl (by omega) (Nat.le_refl _) ?_; intro w1 ho1 hb1; have Ho1 := Lib.hid ho1; clear ho1)
  go_ret
  have hl : (List.replicate n (0 : Int)).length = n := List.length_replicate
  refine ⟨w1.heap.size, w.heap.size, rfl, ⟨?_, ?_, hb1.size, by rw [hl]; exact h2⟩, hb1.alloc hb1.size _⟩
  · rw [hl]; exact heap_alloc_new w1 _
  · rw [hl]; exact World.ownsRow.alloc Ho1.out _

theorem used_any (r : Int) (w : World) (b : Bool) (hb : decide (1 ≤ r ∧ r ≤ 5) = b) :
    Calls Try.prog 30 #[.int .i64 r] w fun e w' => e = .returned (.bool b) ∧ w = w' := by
  by_cases h1 : 1 ≤ r
  · by_cases h2 : r ≤ 5
    · obtain rfl : b = true := by rw [← hb]; simp [h1, h2]
      clear hb
      go_enter Try.func30, Try.ntmps30
      go_wp2
      go_ret
      exact ⟨rfl, rfl⟩
    · obtain rfl : b = false := by rw [← hb]; simp [h2]
      clear hb
      have h2 : 5 < r := by omega
      go_enter Try.func30, Try.ntmps30
      go_wp2
      go_ret
      exact ⟨rfl, rfl⟩
  · obtain rfl : b = false := by rw [← hb]; simp [h1]
    clear hb
    have h1 : r < 1 := by omega
    go_enter Try.func30, Try.ntmps30
    go_wp2
    go_ret
    exact ⟨rfl, rfl⟩

def roleAt (R : List Int) (z : Int) : Int := if 0 ≤ z ∧ z < R.length then R.getD z.toNat 0 else -1
theorem roleAt_in {R : List Int} {n : Nat} (h : n < R.length) : roleAt R n = R[n] := by
  unfold roleAt; rw [if_pos (by omega), Int.toNat_natCast, List.getD, List.getElem?_eq_getElem h]; rfl
set_option maxHeartbeats 1000000 in
theorem role_any {w : World} {B p g : Nat} {R : List Int} {qv : Value} (h : TB w B p g R qv) (z y : Int) (hy : roleAt R z = y) :
    Calls Try.prog 13 #[.pointer (some ⟨p, 0, none⟩), .int .i64 z] w fun e w' => e = .returned (.int .i64 y) ∧ w = w' := by
  obtain ⟨k0, k1, f0, f1⟩ := cell_pair h.1
  have hl := h.2.2.2
  have H := Lib.hid h
  by_cases h0 : 0 ≤ z
  · obtain ⟨n, rfl⟩ := Int.eq_ofNat_of_zero_le h0
    by_cases hn : n < R.length
    · rw [roleAt_in hn] at hy
      have hc := h.cell n hn
      rw [hy] at hc
      clear h hy
      go_enter Try.func13, Try.ntmps13
      go_wp2
      go_ret
      exact ⟨rfl, rfl⟩
    · obtain rfl : y = -1 := by rw [← hy]; unfold roleAt; rw [if_neg (by omega)]
      clear h hy
      have hn : R.length ≤ n := by omega
      go_enter Try.func13, Try.ntmps13
      go_wp2
      go_ret
      exact ⟨rfl, rfl⟩
  · obtain rfl : y = -1 := by rw [← hy]; unfold roleAt; rw [if_neg (by omega)]
    clear h hy
    have h0 : z < 0 := by omega
    go_enter Try.func13, Try.ntmps13
    go_wp2
    go_ret
    exact ⟨rfl, rfl⟩

/-- the first that has this value, or -1 -/
def FirstIs (R : List Int) (v : Int) (z : Int) : Prop :=
  (z = -1 ∧ ∀ i (h : i < R.length), R[i] ≠ v) ∨ (∃ n : Nat, ∃ h : n < R.length, z = n ∧ R[n] = v ∧ ∀ i (h : i < R.length), i < n → R[i] ≠ v)
set_option maxHeartbeats 1000000 in
theorem index_any {w : World} {B p g : Nat} {R : List Int} {qv : Value} (h : TB w B p g R qv) (v : Int) :
    Calls Try.prog 31 #[.slice (some ⟨g, 0, none⟩) R.length R.length, .int .i64 v] w fun e w' => ∃ z, e = .returned (.int .i64 z) ∧ FirstIs R v z ∧ w = w' := by
  have H := Lib.hid h
  have hl := h.2.2.2
  clear h
  go_enter Try.func31, Try.ntmps31
  go_wp2
  go_loopw [8] (fun i wr => ∃ k : Nat, k ≤ R.length ∧ i = .int .i64 k ∧ (∀ i (h : i < R.length), i < k → R[i] ≠ v) ∧ w = wr) (fun i _ => R.length - (intOf i).toNat)
  case atStart => exact ⟨0, Nat.zero_le _, rfl, fun i _ h => by omega, rfl⟩
  case round =>
    obtain ⟨k, hk, rfl, hall, rfl⟩ := hrel
    have Hall := Lib.hid hall
    clear hall
    by_cases hlt : k < R.length
    · have hc := H.out.cell k hlt
      by_cases hv : v = R[k]
      · have Hv := Lib.hid hv.symm
        rw [← hv] at hc
        clear hv
        go_wp2
        go_ret
        exact ⟨_, rfl, .inr ⟨k, hlt, rfl, Hv.out, fun i hi hk => Hall.out i hi hk⟩, rfl⟩
      · have Hv := Lib.hid (fun e => hv (Eq.symm e))
        have hvb : (v == R[k]) = false := by rw [beq_eq_false_iff_ne]; exact hv
        have Hx : Hid (∀ i (h : i < R.length), i < k + 1 → R[i] ≠ v) := Lib.hid fun i hi hik => by
          by_cases e : i = k
          · subst e; exact Hv.out
          · exact Hall.out i hi (by omega)
        go_wp2
        go_roundw
        case rel => exact ⟨k + 1, by omega, by go_num, Hx.out, by first | rfl | trivial⟩
        case measure => simp [intOf]; omega
    · obtain rfl : k = R.length := by omega
      go_wp2
      go_ret
      exact ⟨-1, rfl, .inl ⟨rfl, fun i hi => Hall.out i hi hi⟩, rfl⟩

def TakeOut (w : World) (B p g : Nat) (R : List Int) (qv : Value) (r : Int) (e : Ending) (w' : World) : Prop :=
  (e = .returned (.tuple #[.int .i64 0, .int .i64 81]) ∧ w = w' ∧ ∀ i (h : i < R.length), R[i] ≠ 0) ∨
  (∃ n : Nat, ∃ h : n < R.length, e = .returned (.tuple #[.int .i64 n, .int .i64 0]) ∧ R[n] = 0 ∧ (∀ i (h : i < R.length), i < n → R[i] ≠ 0) ∧ w' = w.setCell ⟨g, n, none⟩ (.int .i64 r))
set_option maxHeartbeats 1000000 in
theorem take_bad {w : World} {B p g : Nat} {R : List Int} {qv : Value} (h : TB w B p g R qv) (r : Int) (hr : decide (1 ≤ r ∧ r ≤ 5) = false) :
    Calls Try.prog 11 #[.pointer (some ⟨p, 0, none⟩), .int .i64 r] w fun e w' => e = .returned (.tuple #[.int .i64 0, .int .i64 80]) ∧ w = w' := by
  have Hr := Lib.hid hr
  clear hr h
  go_enter Try.func11, Try.ntmps11
  go_wp2_with fail; (with_reducible refine (used_any r _ false Hr.out).mono ?_); rintro e w1 ⟨rfl, rfl⟩
  go_wp2
  go_ret2
  exact ⟨rfl, rfl⟩
set_option maxHeartbeats 1000000 in
theorem take_any {w : World} {B p g : Nat} {R : List Int} {qv : Value} (h : TB w B p g R qv) (r : Int) (hr : decide (1 ≤ r ∧ r ≤ 5) = true) :
    Calls Try.prog 11 #[.pointer (some ⟨p, 0, none⟩), .int .i64 r] w (TakeOut w B p g R qv r) := by
  have Hr := Lib.hid hr
  have H := Lib.hid h
  have hl := h.2.2.2
  obtain ⟨k0, k1, f0, f1⟩ := cell_pair h.1
  clear hr h
  go_enter Try.func11, Try.ntmps11
  go_wp2_with fail; (with_reducible refine (used_any r _ true Hr.out).mono ?_); rintro e w1 ⟨rfl, rfl⟩
  go_wp2_with fail; (with_reducible refine (index_any H.out 0).mono ?_); rintro e w1 ⟨z, rfl, hz, rfl⟩
  rcases hz with ⟨rfl, hz⟩ | ⟨n, hn, rfl, h0, hz⟩
  · have Hz := Lib.hid hz
    clear hz
    go_wp2
    go_ret2
    exact .inl ⟨rfl, rfl, Hz.out⟩
  · have Hz := Lib.hid hz
    have H0 := Lib.hid h0
    have hc := H.out.cell n hn
    have hf := H.out.fz n
    clear hz h0
    go_wp2
    go_ret2
    exact .inr ⟨n, hn, rfl, H0.out, Hz.out, rfl⟩

set_option maxHeartbeats 1000000 in
theorem own_no {w : World} {B p g : Nat} {R : List Int} {qv : Value} (h : TB w B p g R qv) (z : Int) (hz : roleAt R z ≠ 0) :
    Calls Try.prog 10 #[.pointer (some ⟨p, 0, none⟩), .int .i64 z, .int .i64 1] w fun e w' => ∃ y, e = .returned (.int .i64 y) ∧ (y == 0) = false ∧ w = w' := by
  have H := Lib.hid h
  clear h
  obtain ⟨y, hy⟩ : ∃ y, roleAt R z = y := ⟨_, rfl⟩
  have Hy := Lib.hid hy
  rw [hy] at hz
  clear hy
  by_cases h1 : y = -1
  · have h1' : (y == -1) = true := by rw [beq_iff_eq]; exact h1
    clear h1
    go_enter Try.func10, Try.ntmps10
    go_wp2_with fail; (with_reducible refine (role_any H.out z y Hy.out).mono ?_); rintro e w1 ⟨rfl, rfl⟩
    go_wp2
    go_ret
    exact ⟨_, rfl, rfl, rfl⟩
  · have h1' : (y == -1) = false := by rw [beq_eq_false_iff_ne]; exact h1
    have h2' : (y != 0) = true := by simp [hz]
    clear h1
    go_enter Try.func10, Try.ntmps10
    go_wp2_with fail; (with_reducible refine (role_any H.out z y Hy.out).mono ?_); rintro e w1 ⟨rfl, rfl⟩
    go_wp2_with fail; (with_reducible refine (used_any 1 _ true (by decide)).mono ?_); rintro e w1 ⟨rfl, rfl⟩
    go_wp2
    go_ret
    exact ⟨_, rfl, rfl, rfl⟩
set_option maxHeartbeats 1000000 in
theorem own_yes {w : World} {B p g : Nat} {R : List Int} {qv : Value} (h : TB w B p g R qv) (n : Nat) (hn : n < R.length) (h0 : R[n] = 0) :
    Calls Try.prog 10 #[.pointer (some ⟨p, 0, none⟩), .int .i64 n, .int .i64 1] w fun e w' => e = .returned (.int .i64 0) ∧ w' = w.setCell ⟨g, n, none⟩ (.int .i64 1) := by
  have hy : roleAt R n = 0 := by rw [roleAt_in hn]; exact h0
  have Hy := Lib.hid hy
  have H := Lib.hid h
  have hl := h.2.2.2
  obtain ⟨k0, k1, f0, f1⟩ := cell_pair h.1
  have hc := h.cell n hn
  have hf := h.fz n
  clear h hy h0
  go_enter Try.func10, Try.ntmps10
  go_wp2_with fail; (with_reducible refine (role_any H.out n 0 Hy.out).mono ?_); rintro e w1 ⟨rfl, rfl⟩
  go_wp2_with fail; (with_reducible refine (used_any 1 _ true (by decide)).mono ?_); rintro e w1 ⟨rfl, rfl⟩
  go_wp2
  go_ret
  exact ⟨rfl, rfl⟩
end Go.Proofs.Ytcgjkgcafkcgoaa
