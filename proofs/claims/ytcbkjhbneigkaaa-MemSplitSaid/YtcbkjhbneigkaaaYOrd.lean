/- The contract of tithebarnref03.order: two texts by their bytes. -/
import Derived.Test.YtcbkjhbneigkaaaYBase
namespace Go.Proofs.Ytcbkjhbneigkaaa
open Go.RowKit
set_option linter.unusedVariables false

theorem cmpB_nil_left (m : List UInt8) (h : 0 < m.length) : Lib.compareBytes [] m = -1 := by cases m with | nil => simp at h | cons => rfl
theorem cmpB_nil_right (m : List UInt8) (h : 0 < m.length) : Lib.compareBytes m [] = 1 := by cases m with | nil => simp at h | cons => rfl
theorem drop_cons (l : List UInt8) (j : Nat) (h : j < l.length) : l.drop j = l.getD j 0 :: l.drop (j + 1) := by
  rw [List.drop_eq_getElem_cons h]; simp [List.getD, h]

theorem getD_idx (a : ByteArray) (j : Nat) (h : j < a.size) : a.data.toList.getD j 0 = a[j] := by
  have h' : j < a.data.toList.length := by rw [Array.length_toList]; exact h
  rw [List.getD_eq_getElem?_getD, List.getElem?_eq_getElem h']
  rfl
theorem cmpB_step (a b : ByteArray) (j : Nat) (h1 : j < a.size) (h2 : j < b.size) :
    Lib.compareBytes (a.data.toList.drop j) (b.data.toList.drop j) = if a[j].toNat < b[j].toNat then -1 else if b[j].toNat < a[j].toNat then 1 else Lib.compareBytes (a.data.toList.drop (j + 1)) (b.data.toList.drop (j + 1)) := by
  rw [drop_cons a.data.toList j (by rw [Array.length_toList]; exact h1), drop_cons b.data.toList j (by rw [Array.length_toList]; exact h2), getD_idx a j h1, getD_idx b j h2]
  rfl

set_option maxHeartbeats 1000000 in
theorem order_any (a b : ByteArray) (w : World) (ha : a.size ≤ maxLen) (hb : b.size ≤ maxLen) :
    Calls Try.prog 44 #[.string a, .string b] w fun e w' => e = .returned (.int .i64 (Lib.compareBytes a.data.toList b.data.toList)) ∧ Below w.heap.size w w' := by
  unfold maxLen at ha hb
  obtain ⟨R, hR⟩ : ∃ R, Lib.compareBytes a.data.toList b.data.toList = R := ⟨_, rfl⟩
  have HR := Lib.hid hR
  rw [hR]
  clear hR
  have HA : Hid (a.data.toList.length = a.size) := by rw [Array.length_toList]; exact Lib.hid rfl
  have HB : Hid (b.data.toList.length = b.size) := by rw [Array.length_toList]; exact Lib.hid rfl
  go_enter Try.func44, Try.ntmps44
  go_wp2
  go_loopw [5] (fun i wr => ∃ j : Nat, j ≤ a.size ∧ j ≤ b.size ∧ i = .int .i64 j ∧ Lib.compareBytes (a.data.toList.drop j) (b.data.toList.drop j) = R ∧ Below w.heap.size w wr) (fun i _ => a.size - (intOf i).toNat)
  case atStart => exact ⟨0, Nat.zero_le _, Nat.zero_le _, rfl, HR.out, Below.refl _ _⟩
  case round =>
    obtain ⟨j, hj1, hj2, rfl, hc, hbel⟩ := hrel
    have Hc := Lib.hid hc
    clear hc
    by_cases h1 : j < a.size
    · by_cases h2 : j < b.size
      · have hst := cmpB_step a b j h1 h2
        rw [Hc.out] at hst
        rcases Nat.lt_trichotomy a[j].toNat b[j].toNat with h | h | h
        · rw [if_pos h] at hst
          subst hst
          go_wp2_with fail
          go_quiet (fail)
          go_wp2
          go_ret
          exact ⟨rfl, below_drewN hbel _⟩
        · rw [if_neg (by omega), if_neg (by omega)] at hst
          have Hst := Lib.hid hst
          clear hst
          have h3 : ¬ a[j].toNat < b[j].toNat := by omega
          have h4 : ¬ b[j].toNat < a[j].toNat := by omega
          clear h
          go_wp2_with fail
          go_quiet (fail)
          go_wp2_with fail
          go_quiet (fail)
          go_wp2
          go_roundw
          case rel => exact ⟨j + 1, by omega, by omega, by go_num, Hst.out.symm, below_drewN hbel _⟩
          case measure => simp [intOf]; omega
        · have h3 : ¬ a[j].toNat < b[j].toNat := by omega
          rw [if_neg h3, if_pos h] at hst
          subst hst
          go_wp2_with fail
          go_quiet (fail)
          go_wp2_with fail
          go_quiet (fail)
          go_wp2
          go_ret
          exact ⟨rfl, below_drewN (below_drewN hbel _) _⟩
      · obtain rfl : j = b.size := by omega
        have hR : R = 1 := by
          have e : b.data.toList.drop b.size = [] := List.drop_of_length_le (by rw [HB.out]; exact Nat.le_refl _)
          rw [← Hc.out, e]
          exact cmpB_nil_right _ (by rw [List.length_drop, HA.out]; omega)
        subst hR
        go_wp2
        go_ret
        exact ⟨rfl, hbel⟩
    · obtain rfl : j = a.size := by omega
      have hd : a.data.toList.drop a.size = [] := List.drop_of_length_le (by rw [HA.out]; exact Nat.le_refl _)
      by_cases h2 : a.size < b.size
      · have hR : R = -1 := by
          rw [← Hc.out, hd]
          exact cmpB_nil_left _ (by rw [List.length_drop, HB.out]; omega)
        subst hR
        clear hd
        go_wp2
        go_ret
        exact ⟨rfl, hbel⟩
      · have hR : R = 0 := by
          have e : b.data.toList.drop a.size = [] := List.drop_of_length_le (by rw [HB.out]; omega)
          rw [← Hc.out, hd, e]
          rfl
        subst hR
        clear hd
        have h3 : ¬ b.size < a.size := by omega
        go_wp2
        go_ret
        exact ⟨rfl, hbel⟩
end Go.Proofs.Ytcbkjhbneigkaaa
