/- The contracts of block.Shared and of tithebarnref12.Shared. -/
import Derived.Test.YtebnllpcagkkbaaOrd
namespace Go.Proofs.Ytebnllpcagkkbaa
open Go.RowKit
set_option linter.unusedVariables false
set_option linter.unusedSimpArgs false

/-- how many bytes are alike -/
def sharedL : List UInt8 → List UInt8 → Nat
  | a :: s, b :: t => if a = b then sharedL s t + 1 else 0
  | _, _ => 0
theorem sharedL_nil (l : List UInt8) : sharedL l [] = 0 := by cases l <;> rfl
theorem sharedL_nil' (l : List UInt8) : sharedL [] l = 0 := rfl
theorem sharedL_comm : ∀ a b : List UInt8, sharedL a b = sharedL b a
  | [], b => by rw [sharedL_nil]; rfl
  | a :: s, [] => rfl
  | a :: s, b :: t => by
    unfold sharedL
    by_cases h : a = b
    · rw [if_pos h, if_pos h.symm, sharedL_comm s t]
    · rw [if_neg h, if_neg (fun e => h e.symm)]
theorem sharedL_le : ∀ a b : List UInt8, sharedL a b ≤ a.length
  | [], b => Nat.zero_le _
  | a :: s, [] => Nat.zero_le _
  | a :: s, b :: t => by
    unfold sharedL
    have := sharedL_le s t
    split
    · simp only [List.length_cons]; omega
    · exact Nat.zero_le _
theorem sharedL_le' (a b : List UInt8) : sharedL a b ≤ b.length := by rw [sharedL_comm]; exact sharedL_le b a
theorem sharedL_take : ∀ a b : List UInt8, a.take (sharedL a b) = b.take (sharedL a b)
  | [], b => by rw [sharedL_nil']; simp
  | a :: s, [] => rfl
  | a :: s, b :: t => by
    unfold sharedL
    by_cases h : a = b
    · rw [if_pos h, List.take_succ_cons, List.take_succ_cons, sharedL_take s t, h]
    · rw [if_neg h]; rfl
def sharedB (a b : ByteArray) : Nat := sharedL a.data.toList b.data.toList
theorem shared_step (a b : ByteArray) (j : Nat) (h1 : j < a.size) (h2 : j < b.size) :
    sharedL (a.data.toList.drop j) (b.data.toList.drop j) = if a[j] = b[j] then sharedL (a.data.toList.drop (j + 1)) (b.data.toList.drop (j + 1)) + 1 else 0 := by
  rw [drop_cons a.data.toList j (by rw [Array.length_toList]; exact h1), drop_cons b.data.toList j (by rw [Array.length_toList]; exact h2), getD_idx a j h1, getD_idx b j h2]
  rfl
theorem shared_end (a b : ByteArray) (j : Nat) (h : a.size ≤ j ∨ b.size ≤ j) : sharedL (a.data.toList.drop j) (b.data.toList.drop j) = 0 := by
  rcases h with h | h
  · rw [List.drop_of_length_le (by rw [Array.length_toList]; exact h)]; exact sharedL_nil' _
  · rw [List.drop_of_length_le (l := b.data.toList) (by rw [Array.length_toList]; exact h)]; exact sharedL_nil _
theorem ret_int {x z : Int} (h : x = z) : Ending.returned (.int .i64 x) = .returned (.int .i64 z) := by rw [h]
theorem u8_eq_int {x y : UInt8} : x = y ↔ (x.toNat : Int) = (y.toNat : Int) := by
  constructor
  · rintro rfl; rfl
  · intro h; exact UInt8.toNat_inj.1 (by omega)

set_option maxHeartbeats 1000000 in
theorem shared_any (a b : ByteArray) (w : World) (ha : a.size ≤ maxLen) (hb : b.size ≤ maxLen) (z : Int) (hz : (sharedB a b : Int) = z) :
    Calls Try.prog 10 #[.string a, .string b] w fun e w' => e = .returned (.int .i64 z) ∧ Below w.heap.size w w' := by
  unfold maxLen at ha hb
  have Hz := Lib.hid hz
  clear hz
  go_enter Try.func10, Try.ntmps10
  go_wp2
  go_loopw [5] (fun i wr => ∃ j : Nat, j ≤ a.size ∧ j ≤ b.size ∧ i = .int .i64 j ∧ sharedB a b = j + sharedL (a.data.toList.drop j) (b.data.toList.drop j) ∧ Below w.heap.size w wr) (fun i _ => a.size - (intOf i).toNat)
  case atStart => exact ⟨0, Nat.zero_le _, Nat.zero_le _, rfl, by unfold sharedB; simp, Below.refl _ _⟩
  case round =>
    obtain ⟨j, hj1, hj2, rfl, hc, hbel⟩ := hrel
    have Hc := Lib.hid hc
    clear hc
    by_cases h1 : j < a.size ∧ j < b.size
    · obtain ⟨h1, h2⟩ := h1
      have hst := shared_step a b j h1 h2
      by_cases he : a[j] = b[j]
      · rw [if_pos he] at hst
        have Hn : Hid (sharedB a b = (j + 1 : Nat) + sharedL (a.data.toList.drop (j + 1)) (b.data.toList.drop (j + 1))) := Lib.hid (by rw [Hc.out, hst]; omega)
        have he2 := u8_eq_int.1 he
        clear hst he
        by_cases hba : b.size < a.size
        all_goals
          go_wp2_with fail
          go_quiet (fail)
          go_wp2
          go_roundw
          case rel => exact ⟨j + 1, by omega, by omega, by go_num, Hn.out, below_drewN hbel _⟩
          case measure => simp [intOf]; omega
      · rw [if_neg he] at hst
        have hr : sharedB a b = j := by rw [Hc.out, hst, Nat.add_zero]
        have Hr := Lib.hid hr
        have he2 : ¬ ((a[j].toNat : Int) = (b[j].toNat : Int)) := fun e => he (u8_eq_int.2 e)
        clear hst he hr
        by_cases hba : b.size < a.size
        all_goals
          go_wp2_with fail
          go_quiet (fail)
          go_wp2
          go_ret
          exact ⟨ret_int (by rw [← Hz.out, Hr.out]), below_drewN hbel _⟩
    · have hr : sharedB a b = j := by rw [Hc.out, shared_end a b j (by omega), Nat.add_zero]
      have Hr := Lib.hid hr
      clear hr
      by_cases hba : b.size < a.size
      · obtain rfl : j = b.size := by omega
        go_wp2_with fail
        go_quiet (fail)
        go_wp2
        go_ret
        exact ⟨ret_int (by rw [← Hz.out, Hr.out]), below_drewN hbel _⟩
      · obtain rfl : j = a.size := by omega
        go_wp2_with fail
        go_quiet (fail)
        go_wp2
        go_ret
        exact ⟨ret_int (by rw [← Hz.out, Hr.out]), below_drewN hbel _⟩

set_option maxHeartbeats 1000000 in
theorem refshared_any (a b : ByteArray) (w : World) (ha : a.size ≤ maxLen) (hb : b.size ≤ maxLen) (z : Int) (hz : (sharedB a b : Int) = z) :
    Calls Try.prog 11 #[.string a, .string b] w fun e w' => e = .returned (.int .i64 z) ∧ Below w.heap.size w w' := by
  unfold maxLen at ha hb
  have Hz := Lib.hid hz
  clear hz
  go_enter Try.func11, Try.ntmps11
  go_wp2
  go_loopw [5] (fun i wr => ∃ j : Nat, j ≤ a.size ∧ j ≤ b.size ∧ i = .int .i64 j ∧ sharedB a b = j + sharedL (a.data.toList.drop j) (b.data.toList.drop j) ∧ Below w.heap.size w wr) (fun i _ => a.size - (intOf i).toNat)
  case atStart => exact ⟨0, Nat.zero_le _, Nat.zero_le _, rfl, by unfold sharedB; simp, Below.refl _ _⟩
  case round =>
    obtain ⟨j, hj1, hj2, rfl, hc, hbel⟩ := hrel
    have Hc := Lib.hid hc
    clear hc
    by_cases h1 : j < a.size
    · by_cases h2 : j < b.size
      · have hst := shared_step a b j h1 h2
        by_cases he : a[j] = b[j]
        · rw [if_pos he] at hst
          have Hn : Hid (sharedB a b = (j + 1 : Nat) + sharedL (a.data.toList.drop (j + 1)) (b.data.toList.drop (j + 1))) := Lib.hid (by rw [Hc.out, hst]; omega)
          have he2 := u8_eq_int.1 he
          clear hst he
          go_wp2_with fail
          go_quiet (fail)
          go_wp2
          go_roundw
          case rel => exact ⟨j + 1, by omega, by omega, by go_num, Hn.out, below_drewN hbel _⟩
          case measure => simp [intOf]; omega
        · rw [if_neg he] at hst
          have hr : sharedB a b = j := by rw [Hc.out, hst, Nat.add_zero]
          have Hr := Lib.hid hr
          have he2 : ¬ ((a[j].toNat : Int) = (b[j].toNat : Int)) := fun e => he (u8_eq_int.2 e)
          have he3 : ((a[j].toNat : Int) != (b[j].toNat : Int)) = true := bne_iff_ne.2 he2
          clear hst he hr
          go_wp2_with fail
          go_quiet (fail)
          go_wp2
          go_ret
          exact ⟨ret_int (by rw [← Hz.out, Hr.out]), below_drewN hbel _⟩
      · have hr : sharedB a b = j := by rw [Hc.out, shared_end a b j (by omega), Nat.add_zero]
        have Hr := Lib.hid hr
        clear hr
        go_wp2_with fail
        go_quiet (fail)
        go_wp2
        go_ret
        exact ⟨ret_int (by rw [← Hz.out, Hr.out]), below_drewN hbel _⟩
    · have hr : sharedB a b = a.size := by rw [Hc.out, shared_end a b j (by omega)]; omega
      have Hr := Lib.hid hr
      clear hr
      go_wp2
      go_ret
      exact ⟨ret_int (by rw [← Hz.out, Hr.out]), hbel⟩
end Go.Proofs.Ytebnllpcagkkbaa
