/- The document's table (layer 8) in memory: a queue that may begin inside of its block. -/
import Derived.Test.YtcgjkgcafkcgoaaAlu
import Derived.ArgAppend
namespace Go.Proofs.Ytcgjkgcafkcgoaa
open Go.RowKit
set_option linter.unusedVariables false
set_option linter.unusedSimpArgs false

/-- numbers that lie one behind the other in a block of their own, from any place on -/
def OR (w : World) (B : Nat) (v : Value) (l : List Int) : Prop :=
  (v = .slice none 0 0 ∧ l = []) ∨ ∃ g off c cur, v = .slice (some ⟨g, off, none⟩) l.length c ∧ B ≤ g ∧ w.heap[g]? = some (.cells cur 3 (0, 0)) ∧ l.length ≤ c ∧ off + c ≤ cur.size ∧ c ≤ maxLen ∧ ∀ i (h : i < l.length), cur[off + i]? = some (.int .i64 l[i])
section
variable {w w' : World} {B : Nat} {v : Value} {l : List Int}
theorem OR.lt (h : OR w B v l) : ∀ k, v.ownBlock = some k → B ≤ k ∧ k < w.heap.size := by
  intro k hk
  rcases h with ⟨rfl, _⟩ | ⟨g, off, c, cur, rfl, hB, hg, _⟩
  · simp [Value.ownBlock] at hk
  · simp [Value.ownBlock] at hk
    subst hk
    exact ⟨hB, blk_lt hg⟩
theorem OR.same (h : OR w B v l) (hs : ∀ k, v.ownBlock = some k → w'.heap[k]? = w.heap[k]?) : OR w' B v l := by
  rcases h with h | ⟨g, off, c, cur, rfl, hB, hg, h4⟩
  · exact .inl h
  · exact .inr ⟨g, off, c, cur, rfl, hB, by rw [hs g rfl]; exact hg, h4⟩
theorem OR.shape (h : OR w B v l) : ∃ a c, v = .slice a l.length c ∧ l.length ≤ c ∧ c ≤ maxLen ∧ (0 < l.length → ∃ g off, a = some ⟨g, off, none⟩ ∧ ∀ i (h : i < l.length), w.cell? ⟨g, off + i, none⟩ = some (.int .i64 l[i])) := by
  rcases h with ⟨rfl, rfl⟩ | ⟨g, off, c, cur, rfl, hB, hg, hc, ho, hm, hl⟩
  · exact ⟨none, 0, rfl, Nat.le_refl _, by decide, fun h => absurd h (by simp)⟩
  · exact ⟨_, c, rfl, hc, hm, fun _ => ⟨g, off, rfl, fun i h => by rw [cell_of_row _ _ _ _ _ _ hg]; exact hl i h⟩⟩
theorem OR.kz {a : Option Addr} {c : Nat} (h : OR w B (.slice a l.length c) l) : KZ w a l := fun hp => by
  obtain ⟨a', c', e, _, _, hg⟩ := h.shape
  simp only [Value.slice.injEq] at e
  obtain ⟨rfl, _, rfl⟩ := e
  obtain ⟨g, off, rfl, hc⟩ := hg hp
  exact ⟨g, off, rfl, hc⟩
/-- without its first number -/
theorem OR.tail {x : Int} {a : Option Addr} {n c : Nat} (h : OR w B (.slice a n c) (x :: l)) : ∃ g off, a = some ⟨g, off, none⟩ ∧ n = l.length + 1 ∧ n ≤ c ∧ c ≤ maxLen ∧ w.cell? ⟨g, off, none⟩ = some (.int .i64 x) ∧ OR w B (if 1 < c then .slice (some ⟨g, off + 1, none⟩) (n - 1) (c - 1) else .slice (some ⟨g, off, none⟩) 0 0) l := by
  rcases h with ⟨_, h⟩ | ⟨g, off, c', cur, e, hB, hg, hc, ho, hm, hl⟩
  · cases h
  · simp only [Value.slice.injEq, List.length_cons] at e hc
    obtain ⟨rfl, rfl, rfl⟩ := e
    refine ⟨g, off, rfl, rfl, hc, hm, by rw [cell_of_row _ _ _ _ _ _ hg]; exact hl 0 (by simp), ?_⟩
    by_cases h1 : 1 < c
    · rw [if_pos h1]
      refine .inr ⟨g, off + 1, c - 1, cur, rfl, hB, hg, by omega, by omega, by omega, fun i h => ?_⟩
      have := hl (i + 1) (by simpa using h)
      rw [show off + 1 + i = off + (i + 1) by omega]
      simpa using this
    · have h0 : l.length = 0 := by omega
      rw [if_neg h1]
      have hn : l = [] := List.eq_nil_of_length_eq_zero h0
      subst hn
      exact .inr ⟨g, off, 0, cur, rfl, hB, hg, Nat.le_refl _, by omega, by omega, fun i h => absurd h (Nat.not_lt_zero _)⟩
end
set_option maxHeartbeats 2000000 in
/-- one more number -/
theorem run_append_or {w : World} {B : Nat} {v : Value} {l : List Int} (h : OR w B v l) (z : Int) (hl : l.length ≤ 1000000) (hB : B ≤ w.heap.size) (ty : TypeId) :
    ∃ v' w', (Builtin.append_ #[22, 22] ty #[v, .slice (some ⟨w.heap.size, 0, none⟩) 1 1]).run Try.prog (w.alloc (.cells #[.int .i64 z] 3)) = .ok v' w' ∧
      OR w' B v' (l ++ [z]) ∧ Chg (fun k => v.ownBlock = some k) w w' ∧ (v'.ownBlock = v.ownBlock ∨ ∃ g, v'.ownBlock = some g ∧ w.heap.size ≤ g) ∧ ∃ a c, v' = .slice a (l.length + 1) c := by
  obtain ⟨i0, hi, hz0, hz1, hz2⟩ := info_parts infoInt
  have hnew : ∀ j u, [Value.int .i64 z][j]? = some u → (w.alloc (.cells #[.int .i64 z] 3)).cell? ((⟨w.heap.size, 0, none⟩ : Addr).add j) = some u := cells_new w #[.int .i64 z] 3 _
  have hsz : (w.alloc (.cells #[.int .i64 z] 3)).heap.size = w.heap.size + 1 := by simp
  have hz3 : (Value.int .i64 0).cells.size = 1 := rfl
  have fresh : ∀ (olds : List Int) (cp : Nat), olds.length + 1 ≤ cp → cp ≤ maxLen → OR ((w.alloc (.cells #[.int .i64 z] 3)).drew.alloc (.cells (((ivs olds).toArray ++ [Value.int .i64 z].toArray) ++ Builtin.zeroCells (Value.int .i64 0).cells (cp - (olds.length + 1))) 3)) B (.slice (some ⟨(w.alloc (.cells #[.int .i64 z] 3)).heap.size, 0, none⟩) (olds.length + 1) cp) (olds ++ [z]) := fun olds cp h1 h2 => by
    refine .inr ⟨(w.alloc (.cells #[.int .i64 z] 3)).heap.size, 0, cp, _, by rw [List.length_append, List.length_singleton], by omega, heap_alloc_new (w.alloc (.cells #[.int .i64 z] 3)).drew _, by rw [List.length_append, List.length_singleton]; exact h1, ?_, h2, fun i hlt => ?_⟩
    · simp only [Array.size_append, List.size_toArray, size_zeroCells, ivs_len, List.length_singleton, hz3]; omega
    · rw [List.length_append, List.length_singleton] at hlt
      rw [Nat.zero_add, Array.getElem?_append_left (by simp only [Array.size_append, List.size_toArray, ivs_len, List.length_singleton]; exact hlt)]
      have e : (ivs olds).toArray ++ [Value.int .i64 z].toArray = (ivs (olds ++ [z])).toArray := by rw [ivs_append]; simp [ivs]
      rw [e, List.getElem?_toArray]
      simp only [ivs, List.getElem?_map]
      rw [List.getElem?_eq_getElem (by rw [List.length_append, List.length_singleton]; exact hlt)]
      rfl
  have away : ∀ o, Chg (fun k => v.ownBlock = some k) w ((w.alloc (.cells #[.int .i64 z] 3)).drew.alloc o) := fun o => by
    refine Chg.of_below ?_
    have h1 : Below w.heap.size w (w.alloc (.cells #[.int .i64 z] 3)) := (Below.refl _ w).alloc (Nat.le_refl _) _
    have h2 := (h1.drew).alloc (show w.heap.size ≤ (w.alloc (.cells #[.int .i64 z] 3)).heap.size by omega) o
    exact h2
  rcases h with ⟨rfl, rfl⟩ | ⟨g, off, c, cur, rfl, hBg, hg, hc, ho, hm, hcs⟩
  · have hr := run_append_nil (P := Try.prog) (w.alloc (.cells #[.int .i64 z] 3)) 22 ty 3 i0 (.int .i64 0) Try.underlying22 hi hz0 ⟨w.heap.size, 0, none⟩ 1 1 [.int .i64 z] (by rw [hz1]; rfl) hnew (by decide) (by decide) (by rw [hz2]; decide)
    have hge := grownCap_ge (w.alloc (.cells #[.int .i64 z] 3)) 1 0 3
    have hle := grownCap_le_maxLen (w.alloc (.cells #[.int .i64 z] 3)) 1 0 3 (by decide)
    refine ⟨_, _, hr, ?_, away _, .inr ⟨_, rfl, (show w.heap.size ≤ (w.alloc (.cells #[.int .i64 z] 3)).heap.size by omega)⟩, _, _, rfl⟩
    have := fresh [] _ hge hle
    simpa [ivs] using this
  · by_cases hfit : l.length + 1 ≤ c
    · have hg2 : (w.alloc (.cells #[.int .i64 z] 3)).heap[g]? = some (.cells cur 3 (0, 0)) := by rw [Below.heap_alloc w _ g (blk_lt hg)]; exact hg
      have hr := run_append_room_cells (P := Try.prog) (w.alloc (.cells #[.int .i64 z] 3)) 22 ty 3 i0 Try.underlying22 hi g off l.length c ⟨w.heap.size, 0, none⟩ 1 1 [.int .i64 z] (by rw [hz1]; rfl) hnew (by simp [Value.oneCell']) hfit
        (fun j hj => by
          have : j = 0 := by simpa using hj
          subst this
          rw [hz1, cell_of_row _ _ _ _ _ _ hg2, Array.getElem?_eq_getElem (by omega)]; rfl)
        (fun j hj => by
          unfold World.frozen?
          simp [hg2])
      refine ⟨_, _, hr, ?_, ?_, .inl rfl, _, _, rfl⟩
      · rw [hz1, Nat.mul_one]
        refine .inr ⟨g, off, c, cur.setIfInBounds (off + l.length) (.int .i64 z), by rw [List.length_append, List.length_singleton], hBg, ?_, by rw [List.length_append, List.length_singleton]; exact hfit, by simpa using ho, hm, fun i hlt => ?_⟩
        · simp only [World.setCells, World.setCell, Array.getElem?_modify, if_true, hg2]; rfl
        · rw [List.length_append, List.length_singleton] at hlt
          by_cases e : i = l.length
          · subst e
            rw [Array.getElem?_setIfInBounds_self_of_lt (by omega)]
            simp
          · rw [Array.getElem?_setIfInBounds_ne (by omega), hcs i (by omega), List.getElem_append_left (by omega)]
      · have h1 : Below w.heap.size w (w.alloc (.cells #[.int .i64 z] 3)) := (Below.refl _ w).alloc (Nat.le_refl _) _
        exact (Chg.of_below (F := fun k => (Value.slice (some ⟨g, off, none⟩) l.length c).ownBlock = some k) h1).trans2 (Chg.set _ g _ _) fun i hi e => by subst e; rfl
    · have hr := run_append_grow (P := Try.prog) (w.alloc (.cells #[.int .i64 z] 3)) 22 ty 3 i0 (.int .i64 0) Try.underlying22 hi hz0 ⟨g, off, none⟩ l.length c (ivs l) (by rw [hz1, ivs_len, Nat.mul_one]) (fun j u hu => ?_) ⟨w.heap.size, 0, none⟩ 1 1 [.int .i64 z] (by rw [hz1]; rfl) hnew (by omega) (by omega) (growslice_fits (by omega) (by rw [hz2]; omega))
      · have hge := grownCap_ge (w.alloc (.cells #[.int .i64 z] 3)) (l.length + 1) c 3
        have hle := grownCap_le_maxLen (w.alloc (.cells #[.int .i64 z] 3)) (l.length + 1) c 3 (by unfold maxLen; omega)
        exact ⟨_, _, hr, fresh l _ hge hle, away _, .inr ⟨_, rfl, (show w.heap.size ≤ (w.alloc (.cells #[.int .i64 z] 3)).heap.size by omega)⟩, _, _, rfl⟩
      · have hj : j < l.length := by
          have := (List.getElem?_eq_some_iff.1 hu).1
          rwa [ivs_len] at this
        have hg2 : (w.alloc (.cells #[.int .i64 z] 3)).heap[g]? = some (.cells cur 3 (0, 0)) := by rw [Below.heap_alloc w _ g (blk_lt hg)]; exact hg
        have e : ((⟨g, off, none⟩ : Addr).add j) = ⟨g, off + j, none⟩ := Addr.add_lit _ _ _
        rw [e, cell_of_row _ _ _ _ _ _ hg2, hcs j hj]
        simp only [ivs, List.getElem?_map, List.getElem?_eq_getElem hj] at hu
        simpa using hu
theorem wpList_appO {w : World} {ops : Array Oper} {rest : List Oper} {o : Oper} {a : Act} {Q : Exit → Act → World → Prop} (hgd : Region.wanted o (yielded ops a.tmps) = true) (s x : Operand)
    (ho : o.op = .call { callee := .builtin .append, args := #[s, x], argTypes := #[22, 22] })
    (B : Nat) (v : Value) (l : List Int) (hs : a.eval s = v) (hown : OR w B v l) (z : Int) (hx : a.eval x = .slice (some ⟨w.heap.size, 0, none⟩) 1 1) (hl : l.length ≤ 1000000) (hB : B ≤ w.heap.size)
    (h : ∀ v' w', OR w' B v' (l ++ [z]) → Chg (fun k => v.ownBlock = some k) w w' → (v'.ownBlock = v.ownBlock ∨ ∃ g, v'.ownBlock = some g ∧ w.heap.size ≤ g) → (∃ a c, v' = .slice a (l.length + 1) c) → wpList Try.prog ops Q rest (a.put o.dst v') w') : wpList Try.prog ops Q (o :: rest) a (w.alloc (.cells #[.int .i64 z] 3)) := by
  obtain ⟨v', w', hrun, h1, h2, h3, h4⟩ := run_append_or hown z hl hB o.type
  refine BigFrame.wpList_want hgd fun K hK' => ?_
  unfold Oper.wp execOp
  simp only [ho, resolve, invoke, builtin, Sem.run_bind, Sem.run_pure, Result.andThen_ok, List.map_toArray, List.map_cons, List.map_nil, hs, hx, hrun]
  exact hK' _ _ (h v' w' h1 h2 h3 h4)
end Go.Proofs.Ytcgjkgcafkcgoaa
