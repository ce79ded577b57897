/- slices.Backward of a slice of ops: what a range over it gives. -/
import Derived.RangeFuncNested
import Derived.RangeFuncBound
import Derived.RangeFuncCalls
import Derived.RangeFuncLeaves
import Derived.RangeFuncBox
import Derived.Shelf.Abstract
import Derived.WalkKit
import Derived.OwnWalkIn
import Derived.TacticsInMore
import Derived.LoopNIn
import Derived.LoopIn
import Derived.Test.YtmgifejmheoddaaOpd
namespace Go.Proofs.Ytmgifejmheoddaa
open Go.RowKit Go.Shelf
set_option linter.unusedVariables false
attribute [local go_sem] Oper.semAt_some

def upto {α : Type} (f : Nat → α) (k : Nat) : List α := (List.range k).map f
theorem upto_succ {α : Type} (f : Nat → α) (k : Nat) : upto f (k + 1) = upto f k ++ [f k] := by simp [upto, List.range_succ]
theorem upto_length {α : Type} (f : Nat → α) (k : Nat) : (upto f k).length = k := by simp [upto]
def opAtB (l : List OpD) (j : Nat) : OpD := l.getD j ⟨0, ⟨#[]⟩, ⟨#[]⟩⟩
/-- what comes in round j, going backward -/
def backF (l : List OpD) (j : Nat) : Nat × OpD := (l.length - 1 - j, opAtB l (l.length - 1 - j))

set_option maxRecDepth 100000 in
set_option maxHeartbeats 2000000 in
theorem back1_in (F : Fence) (n : Nat) (h8 : F.fn 42) (hro : F.round = none) (hn : 1 ≤ n) (l Bs n₀ b off cap : Nat) (ops : List OpD) (hlen : ops.length ≤ maxLen) (hb : b < n₀) (J Jx : List (Nat × OpD) → World → Prop)
    (hY : ∀ pre x W, J pre W → pre.length < ops.length → YieldAt F (n - 1) Try.prog l #[.int .i64 (x.1 : Int), .agg #[.int .i64 x.2.kind, .string x.2.key, .string x.2.val]] W fun e W' =>
      (e = .returned (.bool true) ∧ J (pre ++ [x]) W' ∧ Below n₀ W W') ∨ (e = .returned (.bool false) ∧ Jx (pre ++ [x]) W'))
    (W : World) (hBs : W.cell? ⟨Bs, 0, none⟩ = some (.slice (some ⟨b, off, none⟩) ops.length cap))
    (hc : ∀ j, j < ops.length → W.cell? ⟨b, off + j * 3, none⟩ = some (.int .i64 (opAtB ops j).kind) ∧ W.cell? ⟨b, off + j * 3 + 1, none⟩ = some (.string (opAtB ops j).key) ∧ W.cell? ⟨b, off + j * 3 + 2, none⟩ = some (.string (opAtB ops j).val))
    (hBn : Bs < n₀) (h0 : J [] W) :
    CallsIn F n Try.prog 42 #[.func (.yield l) #[] #[], .pointer (some ⟨Bs, 0, none⟩)] W fun e W' => (∃ v, e = .returned v) ∧
      ((∃ ys, ys = upto (backF ops) ops.length ∧ J ys W') ∨ (∃ pre, (∃ k, k ≤ ops.length ∧ pre = upto (backF ops) k) ∧ Jx pre W')) := by
  unfold maxLen at hlen
  refine callsIn_of_wp Try.func42 rfl h8 ?_ hro
  simp only [Try.ntmps42, List.size_toArray, List.length_cons, List.length_nil, Nat.reduceAdd, Nat.reduceSub, Array.replicate_succ, Array.replicate_zero, List.push_toArray, List.append_toArray, List.nil_append, List.cons_append]
  gi_wp2
  gi_loopw [3] (fun i wr => ∃ k : Nat, k ≤ ops.length ∧ i = .int .i64 ((ops.length : Int) - 1 - k) ∧ J (upto (backF ops) k) wr ∧ Below n₀ W wr)
    (fun i _ => (intOf i + 1).toNat)
  case atStart => exact ⟨0, Nat.zero_le _, by go_num, h0, Below.refl _ _⟩
  case round =>
    obtain ⟨k, hk, rfl, hJs, hnx⟩ := hrel
    have hsB : wr.cell? ⟨Bs, 0, none⟩ = some (.slice (some ⟨b, off, none⟩) ops.length cap) := (hnx.cell (p := ⟨Bs, 0, none⟩) hBn).trans hBs
    by_cases hlt : k < ops.length
    · obtain ⟨m, hm⟩ : ∃ m : Nat, ops.length = k + 1 + m := ⟨ops.length - (k + 1), by omega⟩
      have hmi : ((ops.length : Int) - 1 - k) = (m : Int) := by omega
      have hml : m < ops.length := by omega
      have hmI : (m : Int) < (ops.length : Int) := by omega
      have hf : backF ops k = (m, opAtB ops m) := by unfold backF; rw [show ops.length - 1 - k = m by omega]
      obtain ⟨d0, d1, d2⟩ := hc m hml
      have d0 := (hnx.cell (p := ⟨b, off + m * 3, none⟩) hb).trans d0
      have d1 := (hnx.cell (p := ⟨b, off + m * 3 + 1, none⟩) hb).trans d1
      have d2 := (hnx.cell (p := ⟨b, off + m * 3 + 2, none⟩) hb).trans d2
      obtain ⟨fn, tmps, assign, body, hy, hR⟩ := hY _ (m, opAtB ops m) wr hJs (by rw [upto_length]; exact hlt)
      dsimp only at hy
      generalize opAtB ops m = x at *
      rw [hmi]
      have Hmi := Lib.hid hmi
      have Hm := Lib.hid hm
      clear hmi hm
      gi_wp2
      refine hR.mono ?_
      rintro e W3 (⟨rfl, hJ3, hk3⟩ | ⟨rfl, hJx3⟩)
      · gi_wp2
        go_roundw
        case rel => exact ⟨k + 1, by omega, by have := Hmi.out; go_num, by rw [upto_succ, hf]; exact hJ3, hnx.trans hk3⟩
        case measure => (simp [intOf] <;> omega)
      · gi_wp2
        refine bodyPost_ret (results_none rfl _ _ _) rfl ?_
        exact ⟨⟨_, rfl⟩, .inr ⟨_, ⟨k + 1, by omega, by rw [upto_succ, hf]⟩, hJx3⟩⟩
    · obtain rfl : k = ops.length := by omega
      have hmi : ((ops.length : Int) - 1 - (ops.length : Nat)) = -1 := by omega
      rw [hmi]
      gi_wp2
      go_end0
      exact ⟨⟨_, rfl⟩, .inl ⟨_, rfl, hJs⟩⟩
end Go.Proofs.Ytmgifejmheoddaa
