/- (*block.Block): Len, Every, At, Restarts; what Open's result is. -/
import Derived.Test.YtebnllpcagkkbaaBop2
import Derived.Test.YtebnllpcagkkbaaBrf12
namespace Go.Proofs.Ytebnllpcagkkbaa
open Go.RowKit
set_option linter.unusedVariables false
set_option linter.unusedSimpArgs false

/-- a block at x -/
def BK (w : World) (x : Nat) (a : Option Addr) (c : Nat) (L : List PairD) (ev : Nat) : Prop :=
  w.heap[x]? = some (.cells #[.slice a L.length c, .int .i64 ev] 68 (0, 0)) ∧ PRs w a L
theorem BK.below {w w' : World} {x : Nat} {a : Option Addr} {c : Nat} {L : List PairD} {ev : Nat} (h : BK w x a c L ev) (hb : Below w.heap.size w w') : BK w' x a c L ev := ⟨cells_blk h.1 hb, h.2.below hb⟩
section
variable {w : World} {x : Nat} {a : Option Addr} {c : Nat} {L : List PairD} {ev : Nat}
set_option maxHeartbeats 1000000 in
theorem blen_any (h : BK w x a c L ev) : Calls Try.prog 18 #[.pointer (some ⟨x, 0, none⟩)] w fun e w' => e = .returned (.int .i64 L.length) ∧ w = w' := by
  obtain ⟨k0, k1, _⟩ := cell_two h.1
  clear h
  go_enter Try.func18, Try.ntmps18
  go_wp2
  go_ret
  exact ⟨rfl, rfl⟩
set_option maxHeartbeats 1000000 in
theorem bevery_any (h : BK w x a c L ev) : Calls Try.prog 20 #[.pointer (some ⟨x, 0, none⟩)] w fun e w' => e = .returned (.int .i64 ev) ∧ w = w' := by
  obtain ⟨k0, k1, _⟩ := cell_two h.1
  clear h
  go_enter Try.func20, Try.ntmps20
  go_wp2
  go_ret
  exact ⟨rfl, rfl⟩
set_option maxHeartbeats 1000000 in
theorem bat_in (h : BK w x a c L ev) (hl : L.length ≤ maxLen) (i : Nat) (hi : i < L.length) : Calls Try.prog 19 #[.pointer (some ⟨x, 0, none⟩), .int .i64 i] w fun e w' => e = .returned (.agg #[.string (pAt L i).key, .string (pAt L i).val]) ∧ Below w.heap.size w w' := by
  obtain ⟨k0, k1, _⟩ := cell_two h.1
  obtain ⟨b, off, rfl, f0, f1⟩ := h.2.cells (Below.refl _ w) i hi
  rw [← pAt_get hi] at f0 f1
  have hx := blk_lt h.1
  have hlt := World.block_lt_of_cell? w _ f0
  unfold maxLen at hl
  clear h
  generalize pAt L i = y at *
  go_enter Try.func19, Try.ntmps19
  go_wp2
  refine bodyPost_ret (v := .agg #[.string y.key, .string y.val]) (by simp [results, Try.results19, go_sem]) rfl ⟨rfl, ?_⟩
  (repeat first | exact Below.refl _ _ | refine Below.drew ?_ | refine Below.alloc ?_ (by simp <;> omega) _ | refine Below.setCell ?_ (by simp <;> omega) _)
set_option maxHeartbeats 1000000 in
theorem bat_out (h : BK w x a c L ev) (hl : L.length ≤ maxLen) (i : Int) (hi : i < 0 ∨ (L.length : Int) ≤ i) : Calls Try.prog 19 #[.pointer (some ⟨x, 0, none⟩), .int .i64 i] w fun e w' => e = .returned (.agg #[.string ⟨#[]⟩, .string ⟨#[]⟩]) ∧ Below w.heap.size w w' := by
  obtain ⟨k0, k1, _⟩ := cell_two h.1
  have hx := blk_lt h.1
  unfold maxLen at hl
  clear h
  rcases hi with hi | hi
  · go_enter Try.func19, Try.ntmps19
    go_wp2
    refine bodyPost_ret (v := .agg #[.string ⟨#[]⟩, .string ⟨#[]⟩]) (by simp [results, Try.results19, go_sem]) rfl ⟨rfl, ?_⟩
    (repeat first | exact Below.refl _ _ | refine Below.drew ?_ | refine Below.alloc ?_ (by simp <;> omega) _ | refine Below.setCell ?_ (by simp <;> omega) _)
  · have h0 : 0 ≤ i := by omega
    go_enter Try.func19, Try.ntmps19
    go_wp2
    refine bodyPost_ret (v := .agg #[.string ⟨#[]⟩, .string ⟨#[]⟩]) (by simp [results, Try.results19, go_sem]) rfl ⟨rfl, ?_⟩
    (repeat first | exact Below.refl _ _ | refine Below.drew ?_ | refine Below.alloc ?_ (by simp <;> omega) _ | refine Below.setCell ?_ (by simp <;> omega) _)
end
theorem openB_some {b : List UInt8} {L : List PairD} (h : openB b = some L) : b = buildB (evB b) L ∧ 1 ≤ evB b ∧ evB b ≤ 64 ∧ risesB L = true ∧ 3 * L.length ≤ b.length ∧ ∀ x ∈ L, x.key.size ≤ b.length ∧ x.val.size ≤ b.length := by
  unfold openB at h
  by_cases h5 : b.length < 5
  · rw [if_pos h5] at h; cases h
  rw [if_neg h5] at h
  cases ho : openL b with
  | none => rw [ho] at h; cases h
  | some L' =>
    rw [ho] at h
    simp only at h
    by_cases hc : 1 ≤ evB b ∧ evB b ≤ 64 ∧ risesB L' = true ∧ b = buildB (evB b) L'
    · rw [if_pos hc] at h
      simp only [Option.some.injEq] at h
      subst h
      unfold openL at ho
      split at ho
      · cases ho
      · obtain ⟨s1, s2⟩ := prsP_size _ _ _ _ ho
        have hl := List.length_take_le (b.length - 5 - 4 * beN ((b.drop (b.length - 5)).take 4)) b
        have e : (⟨#[]⟩ : ByteArray).size = 0 := rfl
        refine ⟨hc.2.2.2, hc.1, hc.2.1, hc.2.2.1, ?_, fun x hx => ?_⟩
        · rw [List.length_take] at s1; omega
        · have := s2 x hx
          rw [List.length_take, e] at this
          omega
    · rw [if_neg hc] at h; cases h
theorem body_le_build (ev : Nat) (L : List PairD) : (bodyB ev L L.length).length ≤ (buildB ev L).length := by rw [build_len]; omega
end Go.Proofs.Ytebnllpcagkkbaa
