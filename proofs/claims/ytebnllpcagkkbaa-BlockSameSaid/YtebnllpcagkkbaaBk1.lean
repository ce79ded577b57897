/- What holds while Build lays one pair. -/
import Derived.Test.YtebnllpcagkkbaaBk0
namespace Go.Proofs.Ytebnllpcagkkbaa
open Go.RowKit
set_option linter.unusedVariables false
set_option linter.unusedSimpArgs false

/-- what was laid when c parts of the pair are there -/
def pcs (A : List UInt8) (n : Nat) (x : PairD) : Nat → List UInt8
  | 0 => A
  | 1 => A ++ num n
  | 2 => A ++ num n ++ num (x.key.size - n)
  | 3 => A ++ num n ++ num (x.key.size - n) ++ num x.val.size
  | 4 => A ++ num n ++ num (x.key.size - n) ++ num x.val.size ++ x.key.data.toList.drop n
  | _ => A ++ num n ++ num (x.key.size - n) ++ num x.val.size ++ x.key.data.toList.drop n ++ x.val.data.toList
theorem pcs_five (A : List UInt8) (n : Nat) (x : PairD) : pcs A n x 5 = A ++ pairB n x := by simp [pcs, pairB]
theorem pcs_len (A : List UInt8) (n : Nat) (x : PairD) (hA : A.length ≤ 4294967296) (hx : PairOk x) (hn : n ≤ x.key.size) (c : Nat) : (pcs A n x c).length ≤ 4294967296 + 27 + x.key.size + x.val.size := by
  have h1 := num_len9 (n := n) (by have := hx.1; unfold maxLen at this; omega)
  have h2 := num_len9 (n := x.key.size - n) (by have := hx.1; unfold maxLen at this; omega)
  have h3 := num_len9 (n := x.val.size) (by have := hx.2; unfold maxLen at this; omega)
  have h4 := dataLen x.key
  have h5 := dataLen x.val
  unfold pcs
  split
  all_goals (try simp only [List.length_append, List.length_drop, h4, h5])
  all_goals omega

def BSt (w0 : World) (p q : Nat) (x : PairD) (n : Nat) (A : List UInt8) (sv : Value) (m : Nat) (xs : List Value) (r1 r2 : Option Value) (c : Nat) (W : World) : Prop :=
  ∃ v, WR W p p v (pcs A n x c) false ∧ W.heap[q]? = some (.cells #[.string x.key, .string x.val] 35 (0, 0)) ∧ ¬ fpW p v q ∧ W.ownsRow (p + 1) 55 1 sv m xs ∧
    (∀ u, r1 = some u → RB W u (x.key.data.toList.drop n) ∧ ∀ k, u.ownBlock = some k → ¬ fpW p v k ∧ k < W.heap.size) ∧
    (∀ u, r2 = some u → RB W u x.val.data.toList ∧ ∀ k, u.ownBlock = some k → ¬ fpW p v k ∧ k < W.heap.size) ∧ Below w0.heap.size w0 W ∧ w0.heap.size ≤ p

section
variable {w0 : World} {p q : Nat} {x : PairD} {n : Nat} {A : List UInt8} {sv : Value} {m : Nat} {xs : List Value} {r1 r2 : Option Value} {c : Nat} {W : World}
theorem BSt.drew (h : BSt w0 p q x n A sv m xs r1 r2 c W) : BSt w0 p q x n A sv m xs r1 r2 c W.drew := by
  obtain ⟨v, h1, h2, h3, h4, h5, h6, h7, h8⟩ := h
  exact ⟨v, h1, h2, h3, h4, h5, h6, h7.drew, h8⟩
theorem BSt.cells (h : BSt w0 p q x n A sv m xs r1 r2 c W) : W.cell? ⟨q, 0, none⟩ = some (.string x.key) ∧ W.cell? ⟨q, 1, none⟩ = some (.string x.val) := by
  obtain ⟨v, h1, h2, h3, h4, h5, h6, h7, h8⟩ := h
  exact ⟨(cell_two h2).1, (cell_two h2).2.1⟩
theorem bst_row {u : Value} {l : List UInt8} {v : Value} {o : Obj} (h : RB W u l ∧ ∀ k, u.ownBlock = some k → ¬ fpW p v k ∧ k < W.heap.size) : RB (W.alloc o) u l ∧ ∀ k, u.ownBlock = some k → ¬ fpW p v k ∧ k < (W.alloc o).heap.size :=
  ⟨h.1.alloc o, fun k hk => ⟨(h.2 k hk).1, by have := (h.2 k hk).2; simp; omega⟩⟩
theorem BSt.alloc1 (h : BSt w0 p q x n A sv m xs none r2 c W) (u : ByteArray) (hu : u.data.toList = x.key.data.toList.drop n) (cap : Nat) (hc : u.size ≤ cap) (T : TypeId) (fr : Nat × Nat) :
    BSt w0 p q x n A sv m xs (some (.slice (some ⟨W.heap.size, 0, none⟩) u.size cap)) r2 c (W.alloc (.cells (bytesRow u cap) T fr)) := by
  obtain ⟨v, h1, h2, h3, h4, h5, h6, h7, h8⟩ := h
  refine ⟨v, wr_alloc h1 _, cell_blk h2, h3, World.ownsRow.alloc h4 _, ?_, fun v hv => bst_row (h6 v hv), h7.alloc h7.size _, h8⟩
  rintro _ ⟨⟩
  refine ⟨hu ▸ rb_bytesRow W u cap T fr hc, fun k hk => ?_⟩
  obtain rfl : W.heap.size = k := by simpa [Value.ownBlock] using hk
  exact ⟨nf_fresh h1 (Nat.le_refl _), by simp⟩
where
  cell_blk {W : World} {o : Obj} {X : Obj} {q : Nat} (h : W.heap[q]? = some X) : (W.alloc o).heap[q]? = some X := blk_chg h (Chg.of_below (F := fun _ => False) ((Below.refl _ W).alloc (Nat.le_refl _) o)) (fun h => h)
theorem BSt.alloc2 (h : BSt w0 p q x n A sv m xs r1 none c W) (cap : Nat) (hc : x.val.size ≤ cap) (T : TypeId) (fr : Nat × Nat) :
    BSt w0 p q x n A sv m xs r1 (some (.slice (some ⟨W.heap.size, 0, none⟩) x.val.size cap)) c (W.alloc (.cells (bytesRow x.val cap) T fr)) := by
  obtain ⟨v, h1, h2, h3, h4, h5, h6, h7, h8⟩ := h
  refine ⟨v, wr_alloc h1 _, BSt.alloc1.cell_blk h2, h3, World.ownsRow.alloc h4 _, fun v hv => bst_row (h5 v hv), ?_, h7.alloc h7.size _, h8⟩
  rintro _ ⟨⟩
  refine ⟨rb_bytesRow W x.val cap T fr hc, fun k hk => ?_⟩
  obtain rfl : W.heap.size = k := by simpa [Value.ownBlock] using hk
  exact ⟨nf_fresh h1 (Nat.le_refl _), by simp⟩
theorem BSt.out (h : BSt w0 p q x n A sv m xs r1 r2 c W) {f : FuncId} {args : Array Value} {m' : List UInt8} (hm : pcs A n x (c + 1) = pcs A n x c ++ m')
    (hc : ∀ v, WR W p p v (pcs A n x c) false → Calls Try.prog f args W (WOut W p p v (pcs A n x c ++ m') false)) :
    Calls Try.prog f args W fun e W' => e = .returned (.pointer (some ⟨p, 0, none⟩)) ∧ BSt w0 p q x n A sv m xs r1 r2 (c + 1) W' := by
  obtain ⟨v, h1, h2, h3, h4, h5, h6, h7, h8⟩ := h
  refine (hc v h1).mono ?_
  rintro e W' ⟨rfl, v', hw', hch, hli⟩
  have hz := hch.size
  refine ⟨rfl, v', by rw [hm]; exact hw', blk_chg h2 hch h3, nf_next hli (blk_lt h2) h3, row32_chg h4 h1 hch, ?_, ?_, h7.trans (hch.below (fun k hk => Nat.le_trans h8 (h1.ge (Nat.le_refl _) k hk)) h7.size), h8⟩
  · intro u hu
    obtain ⟨hr, hk⟩ := h5 u hu
    exact ⟨hr.chg hch fun _ k hk' => (hk k hk').1, fun k hk' => ⟨nf_next hli (hk k hk').2 (hk k hk').1, Nat.lt_of_lt_of_le (hk k hk').2 hz⟩⟩
  · intro u hu
    obtain ⟨hr, hk⟩ := h6 u hu
    exact ⟨hr.chg hch fun _ k hk' => (hk k hk').1, fun k hk' => ⟨nf_next hli (hk k hk').2 (hk k hk').1, Nat.lt_of_lt_of_le (hk k hk').2 hz⟩⟩
theorem bst_num (hA : A.length ≤ 4294967296) (hx : PairOk x) (hn : n ≤ x.key.size) (hs : x.key.size ≤ 4294967296) (hs2 : x.val.size ≤ 4294967296) (c' : Nat) (N : Nat) (hN : N < 9223372036854775808) (hm : pcs A n x (c' + 1) = pcs A n x c' ++ num N) (z : Int) (hz : z = (N : Nat)) (r1 r2 : Option Value) (W : World) (h : BSt w0 p q x n A sv m xs r1 r2 c' W) :
    Calls Try.prog 27 #[.pointer (some ⟨p, 0, none⟩), .int .i64 z] W fun e W' => e = .returned (.pointer (some ⟨p, 0, none⟩)) ∧ BSt w0 p q x n A sv m xs r1 r2 (c' + 1) W' := by
  subst hz
  have hl := pcs_len A n x hA hx hn c'
  exact h.out hm fun v hv => wnumC hv N hN (by omega)
theorem bst_raw1 (hA : A.length ≤ 4294967296) (hx : PairOk x) (hn : n ≤ x.key.size) (hs : x.key.size ≤ 4294967296) (hs2 : x.val.size ≤ 4294967296) (u : Value) (r2 : Option Value) (W : World) (h : BSt w0 p q x n A sv m xs (some u) r2 3 W) :
    Calls Try.prog 28 #[.pointer (some ⟨p, 0, none⟩), u] W fun e W' => e = .returned (.pointer (some ⟨p, 0, none⟩)) ∧ BSt w0 p q x n A sv m xs (some u) r2 4 W' := by
  have hl := pcs_len A n x hA hx hn 3
  have hdl := dataLen x.key
  have hr : RB W u (x.key.data.toList.drop n) := by obtain ⟨v, h1, h2, h3, h4, h5, _⟩ := h; exact (h5 u rfl).1
  exact h.out (m' := x.key.data.toList.drop n) rfl fun v hv => wrawC hv hr (by rw [List.length_drop]; omega)
theorem bst_raw2 (hA : A.length ≤ 4294967296) (hx : PairOk x) (hn : n ≤ x.key.size) (hs : x.key.size ≤ 4294967296) (hs2 : x.val.size ≤ 4294967296) (u : Value) (r1 : Option Value) (W : World) (h : BSt w0 p q x n A sv m xs r1 (some u) 4 W) :
    Calls Try.prog 28 #[.pointer (some ⟨p, 0, none⟩), u] W fun e W' => e = .returned (.pointer (some ⟨p, 0, none⟩)) ∧ BSt w0 p q x n A sv m xs r1 (some u) 5 W' := by
  have hl := pcs_len A n x hA hx hn 4
  have hdl := dataLen x.val
  have hr : RB W u x.val.data.toList := by obtain ⟨v, h1, h2, h3, h4, h5, h6, _⟩ := h; exact (h6 u rfl).1
  exact h.out (m' := x.val.data.toList) rfl fun v hv => wrawC hv hr (by omega)
end
end Go.Proofs.Ytebnllpcagkkbaa
