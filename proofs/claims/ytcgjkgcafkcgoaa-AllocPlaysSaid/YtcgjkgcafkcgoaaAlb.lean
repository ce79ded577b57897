/- AllocRebuilds: its walk. -/
import Derived.Test.YtcgjkgcafkcgoaaAlu
import Derived.Test.YtcgjkgcafkcgoaaAlt
namespace Go.Proofs.Ytcgjkgcafkcgoaa
open Go.RowKit
set_option linter.unusedVariables false
set_option linter.unusedSimpArgs false

structure DFree (D : Dv) (n k : Nat) : Prop where
  down : D.down = false
  left : D.left = -1
  n : D.n = n
  done : D.done ≤ k
theorem zapp_free {D : Dv} {n k : Nat} (h : DFree D n k) (z : Int) (m : List UInt8) : DFree (zapp D z m).1 n (k + 1) := by
  have hs : DFree D n (k + 1) := ⟨h.down, h.left, h.n, Nat.le_succ_of_le h.done⟩
  unfold zapp
  split
  · exact hs
  · split
    · unfold zappA
      split
      · exact hs
      · split
        · exact hs
        · split
          · exact hs
          · rw [zcmd_free (by show D.left < 0; rw [h.left]; decide)]
            exact ⟨h.down, h.left, h.n, Nat.succ_le_succ h.done⟩
    · exact hs
def bvl (l : List Bool) : List Value := l.map Value.bool
theorem bvl_set (l : List Bool) (j : Nat) (x : Bool) : bvl (l.set j x) = (bvl l).set j (.bool x) := by simp [bvl]
theorem infoBool : (Try.prog.info? 4).map (fun i => (i.zero, i.size, i.bytes)) = some (some (.bool false), 1, 1) := by kernel_rfl
/-- make of n bools -/
theorem wpList_mkbo {w : World} {ops : Array Oper} {rest : List Oper} {o : Oper} {a : Act} {Q : Exit → Act → World → Prop} (hg : o.guard = none) (l c : Operand)
    (ho : o.op = Op.makeSlice 40 l c) (base n : Nat) (hl : a.eval l = .int .i64 n) (hc : a.eval c = .int .i64 n) (hn : n ≤ 10000) (hbase : base ≤ w.heap.size)
    (h : ∀ w', w'.ownsRow base 4 1 (.slice (some ⟨w.heap.size, 0, none⟩) n n) n (bvl (List.replicate n false)) → Below w.heap.size w w' → wpList Try.prog ops Q rest (a.put o.dst (.slice (some ⟨w.heap.size, 0, none⟩) n n)) w') :
    wpList Try.prog ops Q (o :: rest) a w := by
  obtain ⟨i0, hi, hz0, hz1, hz2⟩ := info_parts infoBool
  refine wpList_make_full w hg l c 40 ho base 4 i0 (.bool false) 1 Try.underlying40 hi hz0 hz1 .i64 .i64 n n n hl hc rfl rfl (by rw [hz2]; omega) (by unfold maxLen; omega) hbase ?_
  intro w' hown hgr
  refine h w' ?_ ⟨hgr.os, hgr.tape, hgr.output, hgr.size, fun k hk => hgr.block k hk (by simp)⟩
  have e : (madeCells (Value.bool false).cells (n * 1)).toList = List.replicate n (.bool false) := by
    rw [Nat.mul_one]; exact toList_madeCells_one _ _
  rw [e] at hown
  have e2 : bvl (List.replicate n false) = List.replicate n (.bool false) := by simp [bvl]
  rw [e2]
  exact hown
/-- a row of bools at block b -/
def BR (w : World) (B b : Nat) (n : Nat) (l : List Bool) : Prop := w.ownsRow B 4 1 (.slice (some ⟨b, 0, none⟩) n n) n (bvl l)
section
variable {w w' : World} {B b n : Nat} {l : List Bool}
theorem BR.lt (h : BR w B b n l) : B ≤ b ∧ b < w.heap.size := World.ownsRow.lt h b rfl
theorem BR.len (h : BR w B b n l) : l.length = n := by have := h.1; simp [bvl] at this; exact this
theorem BR.chg {E : Nat → Prop} (h : BR w B b n l) (hc : Chg E w w') (hd : ¬ E b) : BR w' B b n l := row_same h fun k hk => by
  have e : b = k := by simpa [Value.ownBlock] using hk
  subst e
  exact hc.block b h.lt.2 hd
theorem BR.below (h : BR w B b n l) (hb : Below w.heap.size w w') : BR w' B b n l := h.chg (E := fun _ => False) (Chg.of_below hb) fun h => h
theorem BR.cell (h : BR w B b n l) (i : Nat) (hi : i < l.length) : w.cell? ⟨b, i, none⟩ = some (.bool l[i]) := by
  rw [World.ownsRow.cellAt h i (by have := h.len; omega)]
  simp [bvl, hi]
theorem BR.fz (h : BR w B b n l) (i : Nat) : w.frozen? ⟨b, i, none⟩ = false := World.ownsRow.frozenAt h i
theorem BR.set (h : BR w B b n l) (i : Nat) (x : Bool) : BR (w.setCell ⟨b, i, none⟩ (.bool x)) B b n (l.set i x) := by
  have := (World.ownsRow.stored h i (.bool x)).1
  unfold BR
  rw [bvl_set]; exact this
end
/-- roles are none or of users; has tells which -/
structure HInv (N : Nat) (R : List Int) (hs : List Bool) : Prop where
  len : R.length = N
  hl : hs.length = N
  val : ∀ i (h : i < R.length), R[i] = 0 ∨ (1 ≤ R[i] ∧ R[i] ≤ 5)
  has : ∀ i (h : i < R.length) (h2 : i < hs.length), hs[i] = decide (R[i] ≠ 0)
theorem HInv.put {N : Nat} {R : List Int} {hs : List Bool} (h : HInv N R hs) (n : Nat) (x : Int) (hx : 1 ≤ x ∧ x ≤ 5) : HInv N (R.set n x) (hs.set n true) := by
  refine ⟨by rw [List.length_set]; exact h.len, by rw [List.length_set]; exact h.hl, fun i hi => ?_, fun i hi h2 => ?_⟩
  · rw [List.getElem_set]; split
    · exact .inr hx
    · exact h.val i (by simpa using hi)
  · rw [List.getElem_set, List.getElem_set]
    split
    · exact (decide_eq_true (by omega)).symm
    · exact h.has i (by simpa using hi) (by simpa using h2)
/-- behind a rebuild, while the queue is reset -/
structure RInv (N : Nat) (R Q : List Int) (D : Dv) : Prop where
  len : R.length = N
  q : ∀ z ∈ Q, ∃ n : Nat, z = n ∧ n < N
  fr : ∀ i (h : i < R.length), R[i] = 0 → zst D i = 0
  six : ∀ i (h : i < R.length), R[i] = 6 → (i : Int) ∈ Q
theorem rb_twice {R : List Int} {D : Dv} (hlen : ∀ i, i < R.length → True) : rbl D (places (setAll R (rbl D (places R 0 R.length))) 0 (setAll R (rbl D (places R 0 R.length))).length) = [] := by
  unfold rbl
  rw [List.filter_eq_nil_iff]
  intro z hz hp
  obtain ⟨h1, h2⟩ := places_mem.1 hz
  have h3 : z < R.length := by rw [setAll_len] at h1; exact h1
  rw [setAll_at _ _ _ h1 h3] at h2
  split at h2
  · cases h2
  · rename_i hn
    exact hn (List.mem_filter.2 ⟨places_mem.2 ⟨h3, h2⟩, hp⟩)
theorem zrst_st {D : Dv} {m : Nat} (hd : D.down = false) (hl : D.left = -1) (hm : m < D.n) (i : Nat) : zst (zrst D m).1 i = if i = m ∧ m < D.A.length then 0 else zst D i := by
  have e : zrst D m = ({ D with left := D.left, done := D.done + 1, A := D.A.set m ⟨0, [], 0⟩ }, 0) := by
    unfold zrst
    rw [if_neg (by rw [zfnd_in hd hm]; simp)]
    unfold zthen
    rw [zcmd_free (by rw [hl]; decide)]
    rfl
  rw [e]
  unfold zst
  by_cases hi : i < D.A.length
  · rw [dif_pos ⟨by omega, by simpa using hi⟩, dif_pos ⟨by omega, by simpa using hi⟩]
    simp only [Int.toNat_natCast, List.getElem_set]
    by_cases h2 : m = i
    · subst h2; rw [if_pos rfl, if_pos ⟨rfl, hi⟩]; rfl
    · rw [if_neg h2, if_neg (fun h => h2 h.1.symm)]
  · rw [dif_neg (fun h => hi (by simpa using h.2)), dif_neg (fun h => hi (by simpa using h.2)), if_neg (fun h => hi (by omega))]
end Go.Proofs.Ytcgjkgcafkcgoaa
