/- A device of zones: Check, New. -/
import Derived.Test.YtcgjkgcafkcgoaaZn
import Derived.Deep.RegionLaw
import Derived.Laws.OwnMore
namespace Go.Proofs.Ytcgjkgcafkcgoaa
open Go.RowKit
set_option linter.unusedVariables false
set_option linter.unusedSimpArgs false

theorem box3 (w : World) (a b c : Value) (T : TypeId) : (w.alloc (.cells #[a, b, c] T)).cell? ⟨w.heap.size, 0, none⟩ = some a ∧ (w.alloc (.cells #[a, b, c] T)).cell? ⟨w.heap.size, 1, none⟩ = some b ∧ (w.alloc (.cells #[a, b, c] T)).cell? ⟨w.heap.size, 2, none⟩ = some c := by
  refine ⟨?_, ?_, ?_⟩ <;> (rw [cell_of_row _ _ _ _ _ _ (heap_alloc_new w _)]; rfl)
def gchk (z s o : Int) : Bool := decide (1 ≤ z ∧ z ≤ 64 ∧ 16 ≤ s ∧ s ≤ 65536 ∧ 1 ≤ o ∧ o ≤ z)
set_option maxHeartbeats 4000000 in
theorem zcheck (w : World) (z s o : Int) : Calls Try.prog 42 #[.agg #[.int .i64 z, .int .i64 s, .int .i64 o]] w fun e w' => e = .returned (.bool (gchk z s o)) ∧ Below w.heap.size w w' := by
  by_cases hg : 1 ≤ z ∧ z ≤ 64 ∧ 16 ≤ s ∧ s ≤ 65536 ∧ 1 ≤ o ∧ o ≤ z
  · have e : gchk z s o = true := decide_eq_true hg
    rw [e]
    obtain ⟨h1, h2, h3, h4, h5, h6⟩ := hg
    clear e
    go_enter Try.func42, Try.ntmps42
    go_wp2
    go_ret
    exact ⟨rfl, by (repeat first | exact Below.refl _ _ | refine Below.drew ?_ | refine Below.alloc ?_ (by simp <;> omega) _ | refine Below.setCell ?_ (by simp <;> omega) _)⟩
  · have e : gchk z s o = false := decide_eq_false hg
    rw [e]
    have h7 : z < 1 ∨ (1 ≤ z ∧ 64 < z) ∨ (1 ≤ z ∧ z ≤ 64 ∧ s < 16) ∨ (1 ≤ z ∧ z ≤ 64 ∧ 16 ≤ s ∧ 65536 < s) ∨ (1 ≤ z ∧ z ≤ 64 ∧ 16 ≤ s ∧ s ≤ 65536 ∧ o < 1) ∨ (1 ≤ z ∧ z ≤ 64 ∧ 16 ≤ s ∧ s ≤ 65536 ∧ 1 ≤ o ∧ z < o) := by omega
    clear e hg
    rcases h7 with h1 | ⟨h1, h2⟩ | ⟨h1, h2, h3⟩ | ⟨h1, h2, h3, h4⟩ | ⟨h1, h2, h3, h4, h5⟩ | ⟨h1, h2, h3, h4, h5, h6⟩
    all_goals
      go_enter Try.func42, Try.ntmps42
      go_wp2
      go_ret
      refine ⟨?_, by (repeat first | exact Below.refl _ _ | refine Below.drew ?_ | refine Below.alloc ?_ (by simp <;> omega) _ | refine Below.setCell ?_ (by simp <;> omega) _)⟩
      first | rfl | (simp; omega)
theorem areaInfo : (Try.prog.info? 70).map (fun i => (i.zero, i.size, i.bytes)) = some (some (.agg #[.int .i64 0, .slice none 0 0, .int .i64 0]), 3, 40) := by kernel_rfl
theorem zrow_repl : ∀ n : Nat, zrow (List.replicate n ⟨⟨0, [], 0⟩, .slice none 0 0⟩) = (List.replicate n [Value.int .i64 0, .slice none 0 0, .int .i64 0]).flatten
  | 0 => rfl
  | n + 1 => by
    rw [List.replicate_succ, zrow_cons, zrow_repl n, List.replicate_succ]
    rfl
theorem made3 (x y z : Value) (n : Nat) : (madeCells #[x, y, z] (n * 3)).toList = (List.replicate n [x, y, z]).flatten := by
  have e : (madeCells #[x, y, z] (n * 3)).toList = (List.range (n * 3)).map (fun i => (#[x, y, z] : Array Value)[i % 3]!) := by simp [madeCells]
  rw [e]
  clear e
  induction n with
  | zero => rfl
  | succ n ih =>
    have h0 : n * 3 % 3 = 0 := by omega
    have h1 : (n * 3 + 1) % 3 = 1 := by omega
    have h2 : (n * 3 + 2) % 3 = 2 := by omega
    rw [show (n + 1) * 3 = n * 3 + 1 + 1 + 1 by omega, List.range_succ, List.range_succ, List.range_succ, List.map_append, List.map_append, List.map_append, ih, List.replicate_succ', List.flatten_append]
    simp only [List.map_cons, List.map_nil, h0, h1, h2, List.append_assoc]
    rfl
def dv0 (n size op : Nat) : Dv := ⟨n, size, op, List.replicate n ⟨0, [], 0⟩, -1, 0, false⟩
def zm0 (n : Nat) : List Zm := List.replicate n ⟨⟨0, [], 0⟩, .slice none 0 0⟩
theorem zm0_mem {n : Nat} {x : Zm} (h : x ∈ zm0 n) : x = ⟨⟨0, [], 0⟩, .slice none 0 0⟩ := List.eq_of_mem_replicate h
theorem dm_new {w : World} {B r n s o : Nat} (hg : gchk n s o = true) (hrow : w.ownsRow B 70 3 (.slice (some ⟨r, 0, none⟩) n n) n (madeCells (Value.agg #[.int .i64 0, .slice none 0 0, .int .i64 0]).cells (n * 3)).toList) (hB : B ≤ w.heap.size) :
    DM (w.alloc (.cells (dvals (dv0 n s o) r).toArray 74 (0, 0))) B w.heap.size r (zm0 n) (dv0 n s o) := by
  have hg2 : (1 : Int) ≤ n ∧ (n : Int) ≤ 64 ∧ (16 : Int) ≤ s ∧ (s : Int) ≤ 65536 ∧ (1 : Int) ≤ o ∧ (o : Int) ≤ n := of_decide_eq_true hg
  have ec : (Value.agg #[.int .i64 0, .slice none 0 0, .int .i64 0]).cells = #[.int .i64 0, .slice none 0 0, .int .i64 0] := rfl
  rw [ec, made3, ← zrow_repl] at hrow
  have hr := (World.ownsRow.lt hrow r rfl).2
  refine ⟨heap_alloc_new w _, World.ownsRow.alloc hrow _, ?_, ?_, ?_, by omega, hB, by simp [zm0, dv0], ?_⟩
  · intro x hx; rw [zm0_mem hx]; exact OB.nil _ _
  · intro i j hi hj k hk _
    rw [zm0_mem (List.getElem_mem hi)] at hk
    simp [Value.ownBlock] at hk
  · intro x hx; rw [zm0_mem hx]; simp [Value.ownBlock]
  · exact ⟨by simp only [dv0]; omega, by simp only [dv0]; omega, by simp only [dv0]; omega, by simp only [dv0]; omega, by simp only [dv0]; omega, by simp only [dv0]; omega, by simp only [dv0]; omega, by simp only [dv0]; omega, by simp only [dv0]; omega, fun z hz => by
      rw [List.eq_of_mem_replicate hz]; exact ⟨Nat.zero_le _, Nat.le_refl _, by decide⟩⟩
set_option maxHeartbeats 4000000 in
theorem znew_nil (w : World) (n s o : Int) (hg : gchk n s o = false) : Calls Try.prog 32 #[.agg #[.int .i64 n, .int .i64 s, .int .i64 o]] w fun e w' => e = .returned (.pointer none) ∧ Below w.heap.size w w' := by
  have Hck : Hid (∀ W, Calls Try.prog 42 #[.agg #[.int .i64 n, .int .i64 s, .int .i64 o]] W fun e w' => e = .returned (.bool false) ∧ Below W.heap.size W w') := Lib.hid fun W => by
    have := zcheck W n s o
    rw [hg] at this; exact this
  clear hg
  go_enter Try.func32, Try.ntmps32
  go_wp2_with fail; (with_reducible refine (Hck.out _).mono ?_); rintro e w2 ⟨rfl, hb2⟩
  go_wp2
  go_ret
  exact ⟨rfl, ((Below.refl _ w).alloc (Nat.le_refl _) _).trans (hb2.mono (by simp))⟩
set_option maxRecDepth 100000 in
set_option maxHeartbeats 4000000 in
theorem znew (w : World) (n s o : Nat) (hg : gchk n s o = true) : Calls Try.prog 32 #[.agg #[.int .i64 n, .int .i64 s, .int .i64 o]] w fun e w' => ∃ p r, e = .returned (.pointer (some ⟨p, 0, none⟩)) ∧ DM w' w.heap.size p r (zm0 n) (dv0 n s o) ∧ Below w.heap.size w w' := by
  have Hck : Hid (∀ W, Calls Try.prog 42 #[.agg #[.int .i64 n, .int .i64 s, .int .i64 o]] W fun e w' => e = .returned (.bool true) ∧ Below W.heap.size W w') := Lib.hid fun W => by
    have := zcheck W n s o
    rw [hg] at this; exact this
  have hg2 : (1 : Int) ≤ n ∧ (n : Int) ≤ 64 ∧ (16 : Int) ≤ s ∧ (s : Int) ≤ 65536 ∧ (1 : Int) ≤ o ∧ (o : Int) ≤ n := of_decide_eq_true hg
  have hn64 : n ≤ 64 := by omega
  have HG := Lib.hid hg
  obtain ⟨i0, hi, hz0, hz1, hz2⟩ := info_parts areaInfo
  have Hi := Lib.hid hi
  have Hz0 := Lib.hid hz0
  have Hz3 := Lib.hid hz1
  have Hzb := Lib.hid hz2
  clear hg hg2 hi hz0 hz1 hz2
  go_enter Try.func32, Try.ntmps32
  go_wp2_with fail; (with_reducible refine (Hck.out _).mono ?_); rintro e w2 ⟨rfl, hb2⟩
  have hbw : Below w.heap.size w w2.drew := (((Below.refl _ w).alloc (Nat.le_refl _) _).trans (hb2.mono (by simp))).drew
  have a0 : w2.drew.cell? ⟨w.heap.size, 0, none⟩ = some (.int .i64 n) := cell_next (box3 w _ _ _ _).1 _ hb2.drew
  have a1 : w2.drew.cell? ⟨w.heap.size, 1, none⟩ = some (.int .i64 s) := cell_next (box3 w _ _ _ _).2.1 _ hb2.drew
  have a2 : w2.drew.cell? ⟨w.heap.size, 2, none⟩ = some (.int .i64 o) := cell_next (box3 w _ _ _ _).2.2 _ hb2.drew
  have b0 : w2.cell? ⟨w.heap.size, 0, none⟩ = some (.int .i64 n) := a0
  have b1 : w2.cell? ⟨w.heap.size, 1, none⟩ = some (.int .i64 s) := a1
  have b2 : w2.cell? ⟨w.heap.size, 2, none⟩ = some (.int .i64 o) := a2
  have hsz : w.heap.size ≤ w2.drew.heap.size := hbw.size
  have h40 : 40 * n ≤ 281474976710656 := by omega
  have hml : n ≤ maxLen := by unfold maxLen; omega
  have HB := Lib.hid hbw
  have A0 := cell_next a0
  have A1 := cell_next a1
  have A2 := cell_next a2
  clear hbw hb2 a0 a1 a2
  go_upto_region 3 with (fail)
  obtain ⟨w3, hrun, ho3, hg3⟩ := run_make_full (P := Try.prog) w2.drew w.heap.size 72 70 i0 (.agg #[.int .i64 0, .slice none 0 0, .int .i64 0]) 3 Try.underlying72 Hi.out Hz0.out Hz3.out .i64 .i64 n (by rw [Hzb.out]; exact h40) hml hsz
  have hb3 : Below w2.drew.heap.size w2.drew w3 := ⟨hg3.os, hg3.tape, hg3.output, hg3.size, fun k hk => hg3.block k hk (by simp)⟩
  have e0 := A0 _ hb3
  have e1 := A1 _ hb3
  have e2 := A2 _ hb3
  clear hg3 A0 A1 A2
  go_region
  all_goals
    go_wp2
    go_ret
    refine ⟨_, _, rfl, dm_new HG.out ho3 (Nat.le_trans hsz hb3.size), ?_⟩
    exact (HB.out.trans (hb3.mono hsz)).alloc (Nat.le_trans hsz hb3.size) _
end Go.Proofs.Ytcgjkgcafkcgoaa
