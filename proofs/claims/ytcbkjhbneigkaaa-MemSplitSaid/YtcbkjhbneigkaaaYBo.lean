/- The order of bytes: plain laws. -/
import Derived.Test.YtcbkjhbneigkaaaYBase
namespace Go.Proofs.Ytcbkjhbneigkaaa
open Go.RowKit
set_option linter.unusedVariables false
set_option linter.unusedSimpArgs false

theorem bo_cons (a b : UInt8) (l m : List UInt8) : Lib.compareBytes (a :: l) (b :: m) = if a.toNat < b.toNat then -1 else if b.toNat < a.toNat then 1 else Lib.compareBytes l m := by
  rw [Lib.compareBytes]; rfl
theorem bo_anti : ∀ l m : List UInt8, Lib.compareBytes m l = - Lib.compareBytes l m
  | [], [] => rfl
  | [], b :: m => rfl
  | a :: l, [] => rfl
  | a :: l, b :: m => by
    rw [bo_cons, bo_cons]
    have ih := bo_anti l m
    by_cases h1 : a.toNat < b.toNat
    · rw [if_pos h1, if_neg (by omega), if_pos h1]; rfl
    · by_cases h2 : b.toNat < a.toNat
      · rw [if_pos h2, if_neg h1, if_pos h2]
      · rw [if_neg h2, if_neg h1, if_neg h1, if_neg h2]; exact ih
theorem bo_eq : ∀ l m : List UInt8, Lib.compareBytes l m = 0 ↔ l = m
  | [], [] => ⟨fun _ => rfl, fun _ => rfl⟩
  | [], b :: m => ⟨fun h => (by cases h), fun h => (by cases h)⟩
  | a :: l, [] => ⟨fun h => (by cases h), fun h => (by cases h)⟩
  | a :: l, b :: m => by
    rw [bo_cons]
    have ih := bo_eq l m
    by_cases h1 : a.toNat < b.toNat
    · rw [if_pos h1]
      constructor
      · intro h; cases h
      · intro h
        simp only [List.cons.injEq] at h
        rw [h.1] at h1; omega
    · rw [if_neg h1]
      by_cases h2 : b.toNat < a.toNat
      · rw [if_pos h2]
        constructor
        · intro h; cases h
        · intro h
          simp only [List.cons.injEq] at h
          rw [h.1] at h2; omega
      · rw [if_neg h2, ih]
        have hab : a = b := UInt8.toNat_inj.1 (by omega)
        subst hab
        simp
theorem bo_trans : ∀ l m n : List UInt8, Lib.compareBytes l m < 0 → Lib.compareBytes m n < 0 → Lib.compareBytes l n < 0
  | [], [], n, h, _ => by cases h
  | [], b :: m, [], _, h => by cases h
  | [], b :: m, c :: n, _, _ => by show (-1 : Int) < 0; decide
  | a :: l, [], n, h, _ => by cases h
  | a :: l, b :: m, [], _, h => by cases h
  | a :: l, b :: m, c :: n, h1, h2 => by
    rw [bo_cons] at h1 h2 ⊢
    have ih := bo_trans l m n
    split at h1
    · split at h2
      · rw [if_pos (by omega)]; decide
      · split at h2
        · cases h2
        · rw [if_pos (by omega)]; decide
    · split at h1
      · cases h1
      · split at h2
        · rw [if_pos (by omega)]; decide
        · split at h2
          · cases h2
          · rw [if_neg (by omega), if_neg (by omega)]; exact ih h1 h2
theorem bo_less : ∀ l m : List UInt8, Op.bytesLess l m = decide (Lib.compareBytes l m < 0)
  | [], [] => rfl
  | [], b :: m => rfl
  | a :: l, [] => rfl
  | a :: l, b :: m => by
    rw [Op.bytesLess, bo_less l m, bo_cons]
    by_cases h1 : a.toNat < b.toNat
    · have : a < b := UInt8.lt_iff_toNat_lt.2 h1
      rw [if_pos h1]; simp [this]
    · have h1' : ¬ a < b := fun h => h1 (UInt8.lt_iff_toNat_lt.1 h)
      rw [if_neg h1]
      by_cases h2 : b.toNat < a.toNat
      · have hne : ¬ a = b := fun h => by rw [h] at h2; omega
        rw [if_pos h2]; simp [h1', hne]
      · have hab : a = b := UInt8.toNat_inj.1 (by omega)
        subst hab
        rw [if_neg h2]; simp
/-- of two texts: is the first ahead? -/
def ahead (u v : ByteArray) : Bool := decide (Lib.compareBytes u.data.toList v.data.toList < 0)
theorem bo_lt (u v : ByteArray) : Op.bytesLess u.toList v.toList = ahead u v := by rw [bo_less, Lib.toList_data, Lib.toList_data]; rfl
theorem bo_ext {u v : ByteArray} (h : u.data.toList = v.data.toList) : u = v := by
  have h2 : u.data = v.data := Array.toList_inj.1 h
  cases u; cases v; simpa using h2
theorem bo_same (u v : ByteArray) : (u.toList == v.toList) = decide (u = v) := by
  rw [Lib.toList_data, Lib.toList_data]
  by_cases h : u = v
  · subst h; simp
  · rw [decide_eq_false h, beq_eq_false_iff_ne]; exact fun e => h (bo_ext e)
theorem ahead_irrefl (u : ByteArray) : ahead u u = false := by
  unfold ahead; rw [(bo_eq _ _).2 rfl]; rfl
theorem ahead_trans {u v x : ByteArray} (h : ahead u v = true) (k : ahead v x = true) : ahead u x = true := by
  unfold ahead at h k ⊢; rw [decide_eq_true_eq] at h k ⊢; exact bo_trans _ _ _ h k
theorem ahead_tri (u v : ByteArray) : ahead u v = true ∨ u = v ∨ ahead v u = true := by
  unfold ahead
  have h1 := bo_anti u.data.toList v.data.toList
  have h2 := bo_eq u.data.toList v.data.toList
  rcases Int.lt_trichotomy (Lib.compareBytes u.data.toList v.data.toList) 0 with h | h | h
  · exact .inl (decide_eq_true h)
  · exact .inr (.inl (bo_ext (h2.1 h)))
  · exact .inr (.inr (decide_eq_true (by omega)))
theorem ahead_le (u v : ByteArray) : (Op.bytesLess u.toList v.toList || (u.toList == v.toList)) = !ahead v u := by
  rw [bo_lt, bo_same]
  rcases ahead_tri u v with h | h | h
  · have h2 : ahead v u = false := by
      cases k : ahead v u with
      | false => rfl
      | true => have := ahead_trans h k; rw [ahead_irrefl] at this; cases this
    rw [h, h2]; rfl
  · subst h; rw [ahead_irrefl]; simp
  · have h2 : ahead u v = false := by
      cases k : ahead u v with
      | false => rfl
      | true => have := ahead_trans h k; rw [ahead_irrefl] at this; cases this
    have h3 : ¬ u = v := fun e => by subst e; rw [ahead_irrefl] at h; cases h
    rw [h, h2, decide_eq_false h3]; rfl
end Go.Proofs.Ytcbkjhbneigkaaa
