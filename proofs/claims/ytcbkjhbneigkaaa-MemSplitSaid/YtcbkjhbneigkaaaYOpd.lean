/- batch.Op: how it is held, when it is right, its check. -/
import Derived.Test.YtcbkjhbneigkaaaYSep
import Derived.Test.YtcbkjhbneigkaaaYRow
namespace Go.Proofs.Ytcbkjhbneigkaaa
open Go.RowKit
set_option linter.unusedVariables false

structure OpD where
  kind : Int
  key : ByteArray
  val : ByteArray

def opV (x : OpD) : Value := .agg #[.int .i64 x.kind, .string x.key, .string x.val]
def OpOk (x : OpD) : Prop := -9223372036854775808 ≤ x.kind ∧ x.kind ≤ 9223372036854775807 ∧ x.key.size ≤ maxLen ∧ x.val.size ≤ maxLen
/-- a slice of Ops -/
def OPs (w : World) (a : Option Addr) (l : List OpD) : Prop :=
  (0 < l.length → ∃ b off, a = some ⟨b, off, none⟩ ∧ ∀ i (h : i < l.length), w.cell? ⟨b, off + i * 3, none⟩ = some (.int .i64 l[i].kind) ∧ w.cell? ⟨b, off + i * 3 + 1, none⟩ = some (.string l[i].key) ∧ w.cell? ⟨b, off + i * 3 + 2, none⟩ = some (.string l[i].val)) ∧ ∀ x ∈ l, OpOk x
theorem OPs.below {w w' : World} {a : Option Addr} {l : List OpD} (h : OPs w a l) (hb : Below w.heap.size w w') : OPs w' a l := by
  refine ⟨fun hl => ?_, h.2⟩
  obtain ⟨b, off, rfl, hc⟩ := h.1 hl
  refine ⟨b, off, rfl, fun i hi => ?_⟩
  obtain ⟨h0, h1, h2⟩ := hc i hi
  exact ⟨cell_next h0 _ hb, cell_next h1 _ hb, cell_next h2 _ hb⟩
theorem OPs.cells {w wr : World} {a : Option Addr} {l : List OpD} (h : OPs w a l) (hb : Below w.heap.size w wr) (k : Nat) (hk : k < l.length) :
    ∃ b off, a = some ⟨b, off, none⟩ ∧ wr.cell? ⟨b, off + k * 3, none⟩ = some (.int .i64 l[k].kind) ∧ wr.cell? ⟨b, off + k * 3 + 1, none⟩ = some (.string l[k].key) ∧ wr.cell? ⟨b, off + k * 3 + 2, none⟩ = some (.string l[k].val) := by
  obtain ⟨b, off, rfl, hc⟩ := h.1 (by omega)
  obtain ⟨c0, c1, c2⟩ := hc k hk
  exact ⟨b, off, rfl, cell_next c0 _ hb, cell_next c1 _ hb, cell_next c2 _ hb⟩

/-- is an op right? -/
def opRight (x : OpD) : Bool := decide (1 ≤ x.kind ∧ x.kind ≤ 2 ∧ 1 ≤ x.key.size ∧ x.key.size ≤ 64 ∧ x.val.size ≤ 4096 ∧ (x.kind = 2 → x.val.size = 0))

theorem ret_i64 {a b : Int} (h : a = b) : Ending.returned (.int .i64 a) = .returned (.int .i64 b) := by rw [h]
theorem loop_len (u : ByteArray) : ∀ (m i : Nat) (r : List UInt8), u.size - i = m → (ByteArray.toList.loop u i r).length = r.length + m
  | 0, i, r, h => by
    rw [ByteArray.toList.loop, if_neg (by omega)]; simp
  | m + 1, i, r, h => by
    rw [ByteArray.toList.loop, if_pos (by omega), loop_len u m (i + 1) _ (by omega)]
    simp; omega
theorem Strs.isEmpty_eq (u : ByteArray) : u.toList.isEmpty = decide (u.size = 0) := by
  have h := loop_len u u.size 0 [] (by omega)
  have h2 : u.toList.length = u.size := by
    show (ByteArray.toList.loop u 0 []).length = _
    simpa using h
  rw [Bool.eq_iff_iff, List.isEmpty_iff_length_eq_zero, decide_eq_true_eq, h2]
set_option maxHeartbeats 1000000 in
theorem opcheck (x : OpD) (w : World) (hx : OpOk x) (z : Int) (hz : z = if opRight x then 0 else 100) :
    Calls Try.prog 38 #[.agg #[.int .i64 x.kind, .string x.key, .string x.val]] w fun e w' => e = .returned (.int .i64 z) ∧ Below w.heap.size w w' := by
  obtain ⟨h1, h2, h3, h4⟩ := hx
  unfold maxLen at h3 h4
  have Hz := Lib.hid hz
  clear hz
  have hve := Strs.isEmpty_eq x.val
  by_cases hv : x.val.size = 0
  · rw [decide_eq_true hv] at hve
    by_cases hk : x.kind = 2
    · have hk2 : (x.kind == 2) = true := by rw [beq_iff_eq]; exact hk
      have Hk := Lib.hid hk
      have Hv := Lib.hid hv
      clear hk hv
      go_enter Try.func38, Try.ntmps38
      go_wp2
      all_goals
        go_ret
        have hk := Hk.out
        have hv := Hv.out
        refine ⟨ret_i64 ?_, by (repeat first | exact Below.refl _ _ | refine Below.drew ?_ | refine Below.alloc ?_ (by simp <;> omega) _ | refine Below.setCell ?_ (by simp <;> omega) _)⟩
        rw [Hz.out]
        unfold opRight
        first
          | rw [if_neg (by simp only [decide_eq_true_eq]; omega)]
          | rw [if_pos (by simp only [decide_eq_true_eq]; omega)]
    · have hk2 : (x.kind == 2) = false := by rw [beq_eq_false_iff_ne]; exact hk
      have Hk := Lib.hid hk
      have Hv := Lib.hid hv
      clear hk hv
      go_enter Try.func38, Try.ntmps38
      go_wp2
      all_goals
        go_ret
        have hk := Hk.out
        have hv := Hv.out
        refine ⟨ret_i64 ?_, by (repeat first | exact Below.refl _ _ | refine Below.drew ?_ | refine Below.alloc ?_ (by simp <;> omega) _ | refine Below.setCell ?_ (by simp <;> omega) _)⟩
        rw [Hz.out]
        unfold opRight
        first
          | rw [if_neg (by simp only [decide_eq_true_eq]; omega)]
          | rw [if_pos (by simp only [decide_eq_true_eq]; omega)]
  · rw [decide_eq_false hv] at hve
    by_cases hk : x.kind = 2
    · have hk2 : (x.kind == 2) = true := by rw [beq_iff_eq]; exact hk
      have Hk := Lib.hid hk
      have Hv := Lib.hid hv
      clear hk hv
      go_enter Try.func38, Try.ntmps38
      go_wp2
      all_goals
        go_ret
        have hk := Hk.out
        have hv := Hv.out
        refine ⟨ret_i64 ?_, by (repeat first | exact Below.refl _ _ | refine Below.drew ?_ | refine Below.alloc ?_ (by simp <;> omega) _ | refine Below.setCell ?_ (by simp <;> omega) _)⟩
        rw [Hz.out]
        unfold opRight
        first
          | rw [if_neg (by simp only [decide_eq_true_eq]; omega)]
          | rw [if_pos (by simp only [decide_eq_true_eq]; omega)]
    · have hk2 : (x.kind == 2) = false := by rw [beq_eq_false_iff_ne]; exact hk
      have Hk := Lib.hid hk
      have Hv := Lib.hid hv
      clear hk hv
      go_enter Try.func38, Try.ntmps38
      go_wp2
      all_goals
        go_ret
        have hk := Hk.out
        have hv := Hv.out
        refine ⟨ret_i64 ?_, by (repeat first | exact Below.refl _ _ | refine Below.drew ?_ | refine Below.alloc ?_ (by simp <;> omega) _ | refine Below.setCell ?_ (by simp <;> omega) _)⟩
        rw [Hz.out]
        unfold opRight
        first
          | rw [if_neg (by simp only [decide_eq_true_eq]; omega)]
          | rw [if_pos (by simp only [decide_eq_true_eq]; omega)]
end Go.Proofs.Ytcbkjhbneigkaaa
