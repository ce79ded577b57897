/- The contract of tithebarnref03.order: two texts by their bytes. -/
import Derived.Test.YtmhklmecpbdljaaDoorYJm
namespace Go.Proofs.YtmhklmecpbdljaaDoor
open Go.RowKit
set_option linter.unusedVariables false

theorem cmpB_nil_left (m : List UInt8) (h : 0 < m.length) : Lib.compareBytes [] m = -1 := by cases m with | nil => simp at h | cons => rfl
theorem cmpB_nil_right (m : List UInt8) (h : 0 < m.length) : Lib.compareBytes m [] = 1 := by cases m with | nil => simp at h | cons => rfl
theorem drop_cons (l : List UInt8) (j : Nat) (h : j < l.length) : l.drop j = l.getD j 0 :: l.drop (j + 1) := by
  rw [List.drop_eq_getElem_cons h]; simp [List.getD, h]

theorem getD_idx (a : ByteArray) (j : Nat) (h : j < a.size) : a.data.toList.getD j 0 = a[j] := by
  have h' : j < a.data.toList.length := by rw [Array.length_toList]; exact h
  rw [List.getD_eq_getElem?_getD, List.getElem?_eq_getElem h']
  rfl
theorem cmpB_step (a b : ByteArray) (j : Nat) (h1 : j < a.size) (h2 : j < b.size) :
    Lib.compareBytes (a.data.toList.drop j) (b.data.toList.drop j) = if a[j].toNat < b[j].toNat then -1 else if b[j].toNat < a[j].toNat then 1 else Lib.compareBytes (a.data.toList.drop (j + 1)) (b.data.toList.drop (j + 1)) := by
  rw [drop_cons a.data.toList j (by rw [Array.length_toList]; exact h1), drop_cons b.data.toList j (by rw [Array.length_toList]; exact h2), getD_idx a j h1, getD_idx b j h2]
  rfl

end Go.Proofs.YtmhklmecpbdljaaDoor
