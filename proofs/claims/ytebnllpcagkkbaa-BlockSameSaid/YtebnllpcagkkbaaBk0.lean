/- Pairs as they lie; a block's bytes: plain definitions. -/
import Derived.Test.YtebnllpcagkkbaaShr
import Derived.Test.YtebnllpcagkkbaaWrMore
import Derived.Test.YtebnllpcagkkbaaRow
import Derived.Test.YtebnllpcagkkbaaSize
namespace Go.Proofs.Ytebnllpcagkkbaa
open Go.RowKit
set_option linter.unusedVariables false
set_option linter.unusedSimpArgs false

structure PairD where
  key : ByteArray
  val : ByteArray
def PairOk (x : PairD) : Prop := x.key.size ≤ maxLen ∧ x.val.size ≤ maxLen
/-- a slice of pairs -/
def PRs (w : World) (a : Option Addr) (l : List PairD) : Prop :=
  (0 < l.length → ∃ b off, a = some ⟨b, off, none⟩ ∧ ∀ i (h : i < l.length), w.cell? ⟨b, off + i * 2, none⟩ = some (.string l[i].key) ∧ w.cell? ⟨b, off + i * 2 + 1, none⟩ = some (.string l[i].val)) ∧ ∀ x ∈ l, PairOk x
theorem PRs.below {w w' : World} {a : Option Addr} {l : List PairD} (h : PRs w a l) (hb : Below w.heap.size w w') : PRs w' a l := by
  refine ⟨fun hl => ?_, h.2⟩
  obtain ⟨b, off, rfl, hc⟩ := h.1 hl
  refine ⟨b, off, rfl, fun i hi => ?_⟩
  obtain ⟨h0, h1⟩ := hc i hi
  exact ⟨cell_next h0 _ hb, cell_next h1 _ hb⟩
theorem PRs.cells {w wr : World} {a : Option Addr} {l : List PairD} (h : PRs w a l) (hb : Below w.heap.size w wr) (k : Nat) (hk : k < l.length) :
    ∃ b off, a = some ⟨b, off, none⟩ ∧ wr.cell? ⟨b, off + k * 2, none⟩ = some (.string l[k].key) ∧ wr.cell? ⟨b, off + k * 2 + 1, none⟩ = some (.string l[k].val) := by
  obtain ⟨b, off, rfl, hc⟩ := h.1 (by omega)
  obtain ⟨c0, c1⟩ := hc k hk
  exact ⟨b, off, rfl, cell_next c0 _ hb, cell_next c1 _ hb⟩

def pAt (l : List PairD) (i : Nat) : PairD := l.getD i ⟨⟨#[]⟩, ⟨#[]⟩⟩
theorem pAt_get {l : List PairD} {i : Nat} (h : i < l.length) : pAt l i = l[i] := by unfold pAt; rw [List.getD, List.getElem?_eq_getElem h]; rfl
/-- what entry i shares with the one ahead -/
def shN (every : Nat) (l : List PairD) (i : Nat) : Nat := if i % every = 0 then 0 else sharedB (pAt l i).key (pAt l (i - 1)).key
def pairB (n : Nat) (x : PairD) : List UInt8 := num n ++ num (x.key.size - n) ++ num x.val.size ++ x.key.data.toList.drop n ++ x.val.data.toList
def bodyB (every : Nat) (l : List PairD) (k : Nat) : List UInt8 := (List.range k).flatMap fun i => pairB (shN every l i) (pAt l i)
theorem bodyB_succ (every : Nat) (l : List PairD) (k : Nat) : bodyB every l (k + 1) = bodyB every l k ++ pairB (shN every l k) (pAt l k) := by
  unfold bodyB; rw [List.range_succ, List.flatMap_append]; simp
theorem bodyB_mono (every : Nat) (l : List PairD) {j k : Nat} (h : j ≤ k) : (bodyB every l j).length ≤ (bodyB every l k).length := by
  induction h with
  | refl => exact Nat.le_refl _
  | step h ih => rw [bodyB_succ, List.length_append]; omega
/-- where the restarts begin -/
def starts (every : Nat) (l : List PairD) (k : Nat) : List Nat := ((List.range k).filter fun i => i % every == 0).map fun i => (bodyB every l i).length
theorem starts_yes {every : Nat} {l : List PairD} {k : Nat} (h : k % every = 0) : starts every l (k + 1) = starts every l k ++ [(bodyB every l k).length] := by
  unfold starts; rw [List.range_succ, List.filter_append, List.map_append]
  have hb : (k % every == 0) = true := by rw [beq_iff_eq]; exact h
  simp only [List.filter_cons, hb, List.filter_nil, if_true, List.map_cons, List.map_nil]
theorem starts_no {every : Nat} {l : List PairD} {k : Nat} (h : ¬ k % every = 0) : starts every l (k + 1) = starts every l k := by
  unfold starts; rw [List.range_succ, List.filter_append, List.map_append]
  have hb : (k % every == 0) = false := by rw [beq_eq_false_iff_ne]; exact h
  simp only [List.filter_cons, hb, List.filter_nil, Bool.false_eq_true, if_false, List.map_nil, List.append_nil]
theorem starts_le (every : Nat) (l : List PairD) (k : Nat) : (starts every l k).length ≤ k := by
  unfold starts; rw [List.length_map]; exact Nat.le_trans (List.length_filter_le _ _) (by simp)
theorem starts_small (every : Nat) (l : List PairD) (k : Nat) : ∀ s ∈ starts every l k, s ≤ (bodyB every l k).length := by
  intro s hs
  unfold starts at hs
  obtain ⟨i, hi, rfl⟩ := List.mem_map.1 hs
  have := (List.mem_filter.1 hi).1
  exact bodyB_mono every l (by simp at this; omega)
def word4 (n : Nat) : List UInt8 := [UInt8.ofNat (n / 16777216 % 256), UInt8.ofNat (n / 65536 % 256), UInt8.ofNat (n / 256 % 256), UInt8.ofNat (n % 256)]
def tailB (every : Nat) (l : List PairD) : List Nat := starts every l l.length ++ [(starts every l l.length).length]
def buildB (every : Nat) (l : List PairD) : List UInt8 := bodyB every l l.length ++ (tailB every l).flatMap word4 ++ [UInt8.ofNat every]
/-- is one text not above another, as the program asks it -/
def leB (u v : ByteArray) : Bool := Op.bytesLess u.toList v.toList || (u.toList == v.toList)
def Rises (l : List PairD) (k : Nat) : Prop := ∀ i, 0 < i → i < k → leB (pAt l i).key (pAt l (i - 1)).key = false
def u32s (l : List Nat) : List Value := l.map fun n : Nat => Value.int .u32 ((n : Nat) : Int)
theorem u32s_append (l m : List Nat) : u32s (l ++ m) = u32s l ++ u32s m := by simp [u32s]
theorem infoU32 : (Try.prog.info? 55).map (fun i => (i.zero, i.size, i.bytes)) = some (some (.int .u32 0), 1, 4) := by kernel_rfl

theorem row32_ne {w : World} {p B B' n : Nat} {u v : Value} {xs : List Value} {l : List UInt8} {bad : Bool} (hr : w.ownsRow B' 55 1 u n xs) (hw : WR w p B v l bad) : ∀ k, u.ownBlock = some k → ¬ fpW p v k := by
  intro k hk hf
  rcases hr.2 with ⟨rfl, _⟩ | ⟨g, cap, cur, rfl, _, hh, _⟩
  · cases hk
  · obtain rfl : g = k := by simpa [Value.ownBlock] using hk
    rcases hf with rfl | hf
    · have h1 := hw.1
      rw [hh] at h1
      simp at h1
    · rcases hw.2.1.2 with ⟨rfl, _⟩ | ⟨g', cap', cur', rfl, _, hh', _⟩
      · cases hf
      · obtain rfl : g' = g := by simpa [Value.ownBlock] using hf
        rw [hh] at hh'
        simp at hh'
theorem row32_chg {w w' : World} {p B B' n : Nat} {u v : Value} {xs : List Value} {l : List UInt8} {bad : Bool} (hr : w.ownsRow B' 55 1 u n xs) (hw : WR w p B v l bad) (hc : Chg (fpW p v) w w') : w'.ownsRow B' 55 1 u n xs :=
  row_same hr fun k hk => hc.block k (World.ownsRow.lt hr k hk).2 (row32_ne hr hw k hk)
theorem wr_app32 {w w' : World} {p B B' n : Nat} {u u' v : Value} {xs : List Value} {l : List UInt8} {bad : Bool} (hw : WR w p B v l bad) (hr : w.ownsRow B' 55 1 u n xs) (ha : App w w' u u') : WR w' p B v l bad :=
  hw.chg (Chg.of_app ha) fun k hk hu => row32_ne hr hw k hu hk
theorem wnumC {W : World} {p : Nat} {v : Value} {l : List UInt8} (h : WR W p p v l false) (n : Nat) (hn : n < 9223372036854775808) (hlen : l.length + 9 ≤ 140737488355328) :
    Calls Try.prog 27 #[.pointer (some ⟨p, 0, none⟩), .int .i64 n] W (WOut W p p v (l ++ num n) false) := wnumber h n hn hlen (Nat.le_of_lt (h.lt p (.inl rfl)))
theorem wrawC {W : World} {p : Nat} {v u : Value} {l m : List UInt8} (h : WR W p p v l false) (hr : RB W u m) (hlen : l.length + m.length ≤ 140737488355328) :
    Calls Try.prog 28 #[.pointer (some ⟨p, 0, none⟩), u] W (WOut W p p v (l ++ m) false) := wraw h hr hlen (Nat.le_of_lt (h.lt p (.inl rfl)))
theorem kp_drew {w : World} {a : Addr} {v : Value} (h : w.cell? a = some v) : w.drew.cell? a = some v := h
theorem kp_alloc {w : World} {b j : Nat} {v : Value} (h : w.cell? ⟨b, j, none⟩ = some v) (o : Obj) : (w.alloc o).cell? ⟨b, j, none⟩ = some v := cell_next h _ ((Below.refl _ w).alloc (Nat.le_refl _) o)
theorem wr_alloc {w : World} {p B : Nat} {v : Value} {l : List UInt8} {bad : Bool} (h : WR w p B v l bad) (o : Obj) : WR (w.alloc o) p B v l bad := h.below ((Below.refl _ w).alloc (Nat.le_refl _) o)
theorem wr_drew {w : World} {p B : Nat} {v : Value} {l : List UInt8} {bad : Bool} (h : WR w p B v l bad) : WR w.drew p B v l bad := h
theorem chg_alloc {F : Nat → Prop} {w w' : World} (h : Chg F w w') (o : Obj) : Chg F w (w'.alloc o) := h.alloc o
theorem chg_drew {F : Nat → Prop} {w w' : World} (h : Chg F w w') : Chg F w w'.drew := ⟨h.os, h.tape, h.output, h.size, h.block⟩
theorem nf_fresh {w : World} {p g : Nat} {v : Value} {l : List UInt8} {bad : Bool} (h : WR w p p v l bad) (hg : w.heap.size ≤ g) : ¬ fpW p v g := fun hf => by have := h.lt _ hf; omega
theorem nf_next {w : World} {p q : Nat} {v v' : Value} (hl : Lies w v v') (hq : q < w.heap.size) (hn : ¬ fpW p v q) : ¬ fpW p v' q := fun hf => hn (fpW_lies hl q hq hf)
theorem dataLen (u : ByteArray) : u.data.toList.length = u.size := by rw [Array.length_toList]; rfl
theorem rb_bytesRow (w : World) (u : ByteArray) (cap : Nat) (e : TypeId) (fr : Nat × Nat) (hc : u.size ≤ cap) : RB (w.alloc (.cells (bytesRow u cap) e fr)) (.slice (some ⟨w.heap.size, 0, none⟩) u.size cap) u.data.toList := by
  have hl := dataLen u
  refine ⟨_, cap, by rw [hl], by rw [hl]; exact hc, fun _ => ⟨_, 0, rfl, fun j hj => ?_⟩⟩
  rw [hl] at hj
  have hh : (w.alloc (.cells (bytesRow u cap) e fr)).heap[w.heap.size]? = some (.cells (bytesRow u cap) e fr) := heap_alloc_new w _
  rw [Nat.zero_add, cell_of_row _ _ _ _ _ _ hh]
  unfold bytesRow
  have hj' : j < u.data.size := hj
  rw [Array.getElem?_append_left (by simpa using hj')]
  rw [Array.getElem?_map, Array.getElem?_eq_getElem hj']
  simp [bv]
end Go.Proofs.Ytebnllpcagkkbaa
