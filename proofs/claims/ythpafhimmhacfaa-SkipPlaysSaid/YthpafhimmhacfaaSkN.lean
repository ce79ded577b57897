/- skip.New. -/
import Derived.Test.YthpafhimmhacfaaSkC
namespace Go.Proofs.Ythpafhimmhacfaa
open Go.RowKit
set_option linter.unusedVariables false
set_option linter.unusedSimpArgs false

theorem infoInt05 : (Try.prog.info? 3).map (fun i => (i.zero, i.size, i.bytes)) = some (some (.int .i64 0), 1, 8) := by kernel_rfl
/-- make of n ints -/
theorem wpList_mki05 {w : World} {ops : Array Oper} {rest : List Oper} {o : Oper} {a : Act} {Q : Exit → Act → World → Prop} (hg : o.guard = none) (l c : Operand)
    (ho : o.op = Op.makeSlice 25 l c) (base n : Nat) (hl : a.eval l = .int .i64 n) (hc : a.eval c = .int .i64 n) (hn : n ≤ 10000) (hbase : base ≤ w.heap.size)
    (h : ∀ w', w'.ownsRow base 3 1 (.slice (some ⟨w.heap.size, 0, none⟩) n n) n (List.replicate n (.int .i64 0)) → Below w.heap.size w w' → wpList Try.prog ops Q rest (a.put o.dst (.slice (some ⟨w.heap.size, 0, none⟩) n n)) w') :
    wpList Try.prog ops Q (o :: rest) a w := by
  obtain ⟨i0, hi, hz0, hz1, hz2⟩ := info_parts infoInt05
  refine wpList_make_full w hg l c 25 ho base 3 i0 (.int .i64 0) 1 Try.underlying25 hi hz0 hz1 .i64 .i64 n n n hl hc rfl rfl (by rw [hz2]; omega) (by unfold maxLen; omega) hbase ?_
  intro w' hown hgr
  have e : (madeCells (Value.int .i64 0).cells (n * 1)).toList = List.replicate n (.int .i64 0) := by
    rw [Nat.mul_one]; exact toList_madeCells_one _ _
  rw [e] at hown
  exact h w' hown ⟨hgr.os, hgr.tape, hgr.output, hgr.size, fun k hk => hgr.block k hk (by simp)⟩
set_option maxRecDepth 100000 in
set_option maxHeartbeats 2000000 in
theorem new_ii (w : World) : Calls Try.prog 12 #[] w fun e w' => ∃ p v, e = .returned (.pointer (some ⟨p, 0, none⟩)) ∧ SK 71 74 (.int .i64) w' w.heap.size p v [⟨(0 : Int), .int .i64 0, 12, 0, w.heap.size⟩] ∧ Below w.heap.size w w' := by
  go_enter Try.func12, Try.ntmps12
  go_wp2_with (at_make; refine wpList_mki05 rfl (.const (.int .i64 12)) (.const (.int .i64 12)) rfl w.heap.size 12 rfl rfl (by decide) (Nat.le_refl _) ?_; intro w1 ho1 hb1; have Ho1 := Lib.hid ho1; clear ho1)
  go_ret
  have hw1 := hb1.size
  have hr : ((w1.alloc (.cells #[.int .i64 0, .int .i64 0, .slice (some ⟨w.heap.size, 0, none⟩) 12 12] 71)).alloc (.cells #[.slice (some ⟨w1.heap.size, 0, none⟩) 1 1] 74)).heap[w1.heap.size]? = some (.cells #[.int .i64 0, .int .i64 0, .slice (some ⟨w.heap.size, 0, none⟩) 12 12] 71 (0, 0)) :=
    blk_chg (heap_alloc_new w1 _) (Chg.of_below (F := fun _ => False) ((Below.refl _ _).alloc (Nat.le_refl _) _)) (fun h => h)
  refine ⟨w1.heap.size + 1, .slice (some ⟨w1.heap.size, 0, none⟩) 1 1, rfl, ⟨?_, ⟨[.int .i64 0, .int .i64 0, .slice (some ⟨w.heap.size, 0, none⟩) 12 12], ?_, ?_⟩, ?_, ?_, ?_, ?_, ⟨_, [], rfl, rfl, rfl⟩, by omega⟩, ?_⟩
  · have := heap_alloc_new (w1.alloc (.cells #[.int .i64 0, .int .i64 0, .slice (some ⟨w.heap.size, 0, none⟩) 12 12] 71)) (.cells #[.slice (some ⟨w1.heap.size, 0, none⟩) 1 1] 74)
    rw [show (w1.alloc (.cells #[.int .i64 0, .int .i64 0, .slice (some ⟨w.heap.size, 0, none⟩) 12 12] 71)).heap.size = w1.heap.size + 1 by simp] at this
    exact this
  · exact ⟨rfl, .inr ⟨w1.heap.size, 1, _, rfl, hw1, hr, Nat.le_refl _, by decide, rfl, rfl⟩⟩
  · intro e he
    rw [List.mem_singleton] at he
    subst he
    exact ⟨rfl, rfl, rfl⟩
  · intro i hi
    obtain rfl : i = 0 := by simpa using hi
    exact World.ownsRow.alloc (World.ownsRow.alloc Ho1.out _) _
  · intro i j hi hj _
    simp at hi hj; omega
  · intro i j hi hj _
    simp at hi hj; omega
  · intro e he
    rw [List.mem_singleton] at he
    subst he
    exact Nat.zero_lt_one
  · exact (hb1.alloc hw1 _).alloc (by simp; omega) _
end Go.Proofs.Ythpafhimmhacfaa
