/- alloc.Table: New, Role, Take, Own; slices.Index of ints. -/
import Derived.Test.YtmhklmecpbdljaaDoorYRow
import Derived.Test.YtmhklmecpbdljaaDoorYSep
namespace Go.Proofs.YtmhklmecpbdljaaDoor
open Go.RowKit
set_option linter.unusedVariables false
set_option linter.unusedSimpArgs false

theorem cell_pair {w : World} {p : Nat} {a b : Value} {T : TypeId} (h : w.heap[p]? = some (.cells #[a, b] T (0, 0))) : w.cell? ⟨p, 0, none⟩ = some a ∧ w.cell? ⟨p, 1, none⟩ = some b ∧ w.frozen? ⟨p, 0, none⟩ = false ∧ w.frozen? ⟨p, 1, none⟩ = false := by
  refine ⟨?_, ?_, ?_, ?_⟩
  · rw [cell_of_row _ _ _ _ _ _ h]; rfl
  · rw [cell_of_row _ _ _ _ _ _ h]; rfl
  · simp [World.frozen?, h]
  · simp [World.frozen?, h]
theorem infoInt : (Tryd.prog.info? 3).map (fun i => (i.zero, i.size, i.bytes)) = some (some (.int .i64 0), 1, 8) := by kernel_rfl
def ivs (l : List Int) : List Value := l.map (Value.int .i64)
theorem ivs_len (l : List Int) : (ivs l).length = l.length := by simp [ivs]
theorem ivs_set (l : List Int) (j : Nat) (x : Int) : ivs (l.set j x) = (ivs l).set j (.int .i64 x) := by simp [ivs]
theorem ivs_append (l m : List Int) : ivs (l ++ m) = ivs l ++ ivs m := by simp [ivs]
/-- make of n ints -/
theorem wpList_mki {w : World} {ops : Array Oper} {rest : List Oper} {o : Oper} {a : Act} {Q : Exit → Act → World → Prop} (hg : o.guard = none) (l c : Operand)
    (ho : o.op = Op.makeSlice 77 l c) (base n : Nat) (hl : a.eval l = .int .i64 n) (hc : a.eval c = .int .i64 n) (hn : n ≤ 10000) (hbase : base ≤ w.heap.size)
    (h : ∀ w', w'.ownsRow base 3 1 (.slice (some ⟨w.heap.size, 0, none⟩) n n) n (ivs (List.replicate n 0)) → Below w.heap.size w w' → wpList Tryd.prog ops Q rest (a.put o.dst (.slice (some ⟨w.heap.size, 0, none⟩) n n)) w') :
    wpList Tryd.prog ops Q (o :: rest) a w := by
  obtain ⟨i0, hi, hz0, hz1, hz2⟩ := info_parts infoInt
  refine wpList_make_full w hg l c 77 ho base 3 i0 (.int .i64 0) 1 Tryd.underlying77 hi hz0 hz1 .i64 .i64 n n n hl hc rfl rfl (by rw [hz2]; omega) (by unfold maxLen; omega) hbase ?_
  intro w' hown hgr
  refine h w' ?_ ⟨hgr.os, hgr.tape, hgr.output, hgr.size, fun k hk => hgr.block k hk (by simp)⟩
  have e : (madeCells (Value.int .i64 0).cells (n * 1)).toList = List.replicate n (.int .i64 0) := by
    rw [Nat.mul_one]; exact toList_madeCells_one _ _
  rw [e] at hown
  have e2 : ivs (List.replicate n 0) = List.replicate n (.int .i64 0) := by simp [ivs]
  rw [e2]
  exact hown

def roleAt (R : List Int) (z : Int) : Int := if 0 ≤ z ∧ z < R.length then R.getD z.toNat 0 else -1
theorem roleAt_in {R : List Int} {n : Nat} (h : n < R.length) : roleAt R n = R[n] := by
  unfold roleAt; rw [if_pos (by omega), Int.toNat_natCast, List.getD, List.getElem?_eq_getElem h]; rfl
/-- the first that has this value, or -1 -/
def FirstIs (R : List Int) (v : Int) (z : Int) : Prop :=
  (z = -1 ∧ ∀ i (h : i < R.length), R[i] ≠ v) ∨ (∃ n : Nat, ∃ h : n < R.length, z = n ∧ R[n] = v ∧ ∀ i (h : i < R.length), i < n → R[i] ≠ v)
def TakeOut (w : World) (B p g : Nat) (R : List Int) (qv : Value) (r : Int) (e : Ending) (w' : World) : Prop :=
  (e = .returned (.tuple #[.int .i64 0, .int .i64 81]) ∧ w = w' ∧ ∀ i (h : i < R.length), R[i] ≠ 0) ∨
  (∃ n : Nat, ∃ h : n < R.length, e = .returned (.tuple #[.int .i64 n, .int .i64 0]) ∧ R[n] = 0 ∧ (∀ i (h : i < R.length), i < n → R[i] ≠ 0) ∧ w' = w.setCell ⟨g, n, none⟩ (.int .i64 r))
end Go.Proofs.YtmhklmecpbdljaaDoor
