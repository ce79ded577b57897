/- batch.Batch.Bytes: its contract. -/
import Derived.Test.YtcbkjhbneigkaaaYBat1
import Derived.Test.YtcbkjhbneigkaaaYJb
import Derived.Test.YtcbkjhbneigkaaaYRdMore
import Derived.Deep.RegionHeld3
import Derived.Deep.Cut
namespace Go.Proofs.Ytcbkjhbneigkaaa
open Go.RowKit
set_option linter.unusedVariables false
set_option linter.unusedSimpArgs false

/-- the bytes of an op, of a batch -/
def opB (x : OpD) : List UInt8 := UInt8.ofNat (x.kind % 256).toNat :: (num x.key.size ++ x.key.data.toList) ++ (if x.kind = 1 then num x.val.size ++ x.val.data.toList else [])
def opsB (l : List OpD) : List UInt8 := l.flatMap opB
def batB (seq : Int) (l : List OpD) : List UInt8 := num seq.toNat ++ num l.length ++ opsB l
theorem opsB_snoc (L : List OpD) (k : Nat) (h : k < L.length) : opsB (L.take (k + 1)) = opsB (L.take k) ++ opB L[k] := by
  unfold opsB; rw [List.take_succ_eq_append_getElem h, List.flatMap_append]; simp only [List.flatMap_cons, List.flatMap_nil, List.append_nil]
theorem dataLen (u : ByteArray) : u.data.toList.length = u.size := by rw [Array.length_toList]; rfl
theorem opB_len {x : OpD} (h : opRight x = true) : (opB x).length ≤ 4200 := by
  unfold opRight at h
  simp only [decide_eq_true_eq] at h
  have h9 := num_len9 (n := x.key.size) (by omega)
  have h8 := num_len9 (n := x.val.size) (by omega)
  have e1 := dataLen x.key
  have e2 := dataLen x.val
  unfold opB
  by_cases hk : x.kind = 1
  · rw [if_pos hk]; simp only [List.length_cons, List.length_append]; omega
  · rw [if_neg hk]; simp only [List.length_cons, List.length_append, List.length_nil]; omega
theorem opsB_len (L : List OpD) (hx : ∀ x ∈ L, opRight x = true) : ∀ (k : Nat), k ≤ L.length → (opsB (L.take k)).length ≤ 4200 * k
  | 0, _ => by simp [opsB]
  | k + 1, h => by
    have ih := opsB_len L hx k (by omega)
    have h9 := opB_len (hx _ (List.getElem_mem (show k < L.length by omega)))
    rw [opsB_snoc L k h]
    simp only [List.length_append]
    omega
theorem batRight_all {seq : Int} {l : List OpD} (h : batRight seq l = true) : (∀ x ∈ l, opRight x = true) ∧ 1 ≤ l.length ∧ l.length ≤ 64 ∧ 0 ≤ seq ∧ seq ≤ 1099511627776 - l.length := by
  unfold batRight at h
  rw [Bool.and_eq_true, decide_eq_true_eq] at h
  obtain ⟨h1, h2⟩ := h
  refine ⟨fun x hx => ?_, h1⟩
  have h3 : l.any (fun x => !opRight x) = false := by simpa using h2
  rw [List.any_eq_false] at h3
  simpa using h3 x hx

theorem rb_bytesRow (w : World) (u : ByteArray) (cap : Nat) (e : TypeId) (fr : Nat × Nat) (hc : u.size ≤ cap) : RB (w.alloc (.cells (bytesRow u cap) e fr)) (.slice (some ⟨w.heap.size, 0, none⟩) u.size cap) u.data.toList := by
  have hl := dataLen u
  refine ⟨_, cap, by rw [hl], by rw [hl]; exact hc, fun _ => ⟨_, 0, rfl, fun j hj => ?_⟩⟩
  rw [hl] at hj
  have hh : (w.alloc (.cells (bytesRow u cap) e fr)).heap[w.heap.size]? = some (.cells (bytesRow u cap) e fr) := heap_alloc_new w _
  rw [Nat.zero_add, cell_of_row _ _ _ _ _ _ hh]
  unfold bytesRow
  have hj' : j < u.data.size := hj
  rw [Array.getElem?_append_left (by simpa using hj')]
  rw [Array.getElem?_map, Array.getElem?_eq_getElem hj']
  simp [bv]

theorem fp_next {w : World} {p q : Nat} {v v' : Value} (hl : Lies w v v') (hq : q < w.heap.size) (hn : ¬ fpW p v q) : ¬ fpW p v' q := fun hf => hn (fpW_lies hl q hq hf)
theorem blk_alloc {w : World} {q : Nat} {o : Obj} (h : w.heap[q]? = some o) (x : Obj) : (w.alloc x).heap[q]? = some o := blk_chg h (Chg.of_below (F := fun _ => False) ((Below.refl _ w).alloc (Nat.le_refl _) x)) (fun h => h)
theorem blk_allocD {w : World} {q : Nat} {o : Obj} (h : w.heap[q]? = some o) (x : Obj) : (w.alloc x).drew.heap[q]? = some o := blk_alloc h x
theorem blk_allocDD {w : World} {q : Nat} {o : Obj} (h : w.heap[q]? = some o) (x : Obj) : (w.alloc x).drew.drew.heap[q]? = some o := blk_alloc h x
theorem rb_bytesRowDD (w : World) (u : ByteArray) (cap : Nat) (e : TypeId) (fr : Nat × Nat) (hc : u.size ≤ cap) : RB (w.alloc (.cells (bytesRow u cap) e fr)).drew.drew (.slice (some ⟨w.heap.size, 0, none⟩) u.size cap) u.data.toList := rb_bytesRow w u cap e fr hc
theorem wrap_u8 (n : Int) : IntKind.u8.wrap n = n % 256 := by simp [IntKind.wrap, IntKind.bits, IntKind.signed]
theorem cells3_alloc {w : World} {q : Nat} {a b c : Value} {T : TypeId} (h : w.heap[q]? = some (.cells #[a, b, c] T (0, 0))) (x : Obj) : (w.alloc x).drew.cell? ⟨q, 0, none⟩ = some a ∧ (w.alloc x).drew.cell? ⟨q, 1, none⟩ = some b :=
  ⟨(cell_three (blk_alloc h x)).1, (cell_three (blk_alloc h x)).2.1⟩
end Go.Proofs.Ytcbkjhbneigkaaa
