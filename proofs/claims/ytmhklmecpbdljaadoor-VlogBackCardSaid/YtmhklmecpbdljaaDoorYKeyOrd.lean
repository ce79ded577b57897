/- Plain: the bytes of two right keys stand in the order of the keys, whatever stands behind them. -/
import Derived.Test.YtmhklmecpbdljaaDoorYIkThree
namespace Go.Proofs.YtmhklmecpbdljaaDoor
open Go.RowKit
set_option linter.unusedVariables false

theorem cmpB_cons (a b : UInt8) (l m : List UInt8) : Lib.compareBytes (a :: l) (b :: m) = if a.toNat < b.toNat then -1 else if b.toNat < a.toNat then 1 else Lib.compareBytes l m := by
  rw [Lib.compareBytes]; rfl
theorem cmpB_same (a : UInt8) (l m : List UInt8) : Lib.compareBytes (a :: l) (a :: m) = Lib.compareBytes l m := by
  rw [cmpB_cons, if_neg (by omega), if_neg (by omega)]
theorem esc_cons (c : UInt8) (l : List UInt8) : esc (c :: l) = (if c = 0 then [0, 255] else [c]) ++ esc l := by unfold esc; rw [List.flatMap_cons]
theorem ne_zero_toNat {c : UInt8} (h : ¬ c = 0) : 0 < c.toNat := by
  rcases Nat.eq_zero_or_pos c.toNat with h0 | h0
  · exact absurd (UInt8.toNat_inj.1 (by simpa using h0)) h
  · exact h0

theorem fin_ne {x R Z : Int} (h : x = R) (hne : R ≠ 0) : x = if R ≠ 0 then R else Z := by rw [if_pos hne, h]
theorem esc_zero (l : List UInt8) : esc (0 :: l) = 0 :: 255 :: esc l := by rw [esc_cons, if_pos rfl]; rfl
theorem esc_other {c : UInt8} (h : ¬ c = 0) (l : List UInt8) : esc (c :: l) = c :: esc l := by rw [esc_cons, if_neg h]; rfl
theorem cmpB_lt {a b : UInt8} (h : a.toNat < b.toNat) (l m : List UInt8) : Lib.compareBytes (a :: l) (b :: m) = -1 := by rw [cmpB_cons, if_pos h]
theorem cmpB_gt {a b : UInt8} (h : b.toNat < a.toNat) (l m : List UInt8) : Lib.compareBytes (a :: l) (b :: m) = 1 := by rw [cmpB_cons, if_neg (by omega), if_pos h]

theorem cmp_esc : ∀ (l m X Y : List UInt8), Lib.compareBytes (esc l ++ (0 :: 1 :: X)) (esc m ++ (0 :: 1 :: Y)) = if Lib.compareBytes l m ≠ 0 then Lib.compareBytes l m else Lib.compareBytes X Y
  | [], [], X, Y => by
    have e : esc [] = [] := rfl
    have r : Lib.compareBytes [] [] = 0 := rfl
    rw [e, List.nil_append, List.nil_append, cmpB_same, cmpB_same, r, if_neg (by decide)]
  | [], c :: m, X, Y => by
    have e : esc [] = [] := rfl
    have r : Lib.compareBytes [] (c :: m) = -1 := rfl
    refine fin_ne ?_ (by rw [r]; decide)
    rw [r, e, List.nil_append]
    by_cases hc : c = 0
    · subst hc
      rw [esc_zero, List.cons_append, List.cons_append, cmpB_same]
      exact cmpB_lt (by decide) _ _
    · rw [esc_other hc, List.cons_append]
      exact cmpB_lt (by have := ne_zero_toNat hc; simpa using this) _ _
  | c :: l, [], X, Y => by
    have e : esc [] = [] := rfl
    have r : Lib.compareBytes (c :: l) [] = 1 := rfl
    refine fin_ne ?_ (by rw [r]; decide)
    rw [r, e, List.nil_append]
    by_cases hc : c = 0
    · subst hc
      rw [esc_zero, List.cons_append, List.cons_append, cmpB_same]
      exact cmpB_gt (by decide) _ _
    · rw [esc_other hc, List.cons_append]
      exact cmpB_gt (by have := ne_zero_toNat hc; simpa using this) _ _
  | a :: l, b :: m, X, Y => by
    have ih := cmp_esc l m X Y
    by_cases hab : a = b
    · subst hab
      rw [cmpB_same, ← ih]
      by_cases ha : a = 0
      · subst ha
        rw [esc_zero, esc_zero, List.cons_append, List.cons_append, List.cons_append, List.cons_append, cmpB_same, cmpB_same]
      · rw [esc_other ha, esc_other ha, List.cons_append, List.cons_append, cmpB_same]
    · have hn : a.toNat ≠ b.toNat := fun h => hab (UInt8.toNat_inj.1 h)
      rcases Nat.lt_or_gt_of_ne hn with h | h
      · have r := cmpB_lt h l m
        refine fin_ne ?_ (by rw [r]; decide)
        rw [r]
        have hb : ¬ b = 0 := fun hb => by subst hb; simp at h
        by_cases ha : a = 0
        · subst ha
          rw [esc_zero, esc_other hb, List.cons_append, List.cons_append]
          exact cmpB_lt (by have := ne_zero_toNat hb; simpa using this) _ _
        · rw [esc_other ha, esc_other hb, List.cons_append, List.cons_append]
          exact cmpB_lt h _ _
      · have r := cmpB_gt h l m
        refine fin_ne ?_ (by rw [r]; decide)
        rw [r]
        have ha : ¬ a = 0 := fun ha => by subst ha; simp at h
        by_cases hb : b = 0
        · subst hb
          rw [esc_zero, esc_other ha, List.cons_append, List.cons_append]
          exact cmpB_gt (by have := ne_zero_toNat ha; simpa using this) _ _
        · rw [esc_other ha, esc_other hb, List.cons_append, List.cons_append]
          exact cmpB_gt h _ _

theorem byteAt_toNat (n k : Nat) : (byteAt n k).toNat = n / 2 ^ (8 * k) % 256 := by unfold byteAt; simp
theorem cmp_six (p q : Nat) (hp : p ≤ 1099511627776) (hq : q ≤ 1099511627776) (X Y : List UInt8) :
    Lib.compareBytes (six p ++ X) (six q ++ Y) = if p < q then -1 else if q < p then 1 else Lib.compareBytes X Y := by
  unfold six
  simp only [List.cons_append, List.nil_append, cmpB_cons, byteAt_toNat]
  simp only [Nat.reduceMul, Nat.reducePow]
  (repeat' split) <;> first | rfl | omega
theorem ofNat_k (k : Int) (h1 : 1 ≤ k) (h2 : k ≤ 3) : (UInt8.ofNat (255 - k).toNat).toNat = (255 - k).toNat := by
  have : (UInt8.ofNat (255 - k).toNat).toNat = (255 - k).toNat % 256 := by simp
  omega

theorem right_facts {u : ByteArray} {s k : Int} (h : keyRight u s k = true) : 1 ≤ u.size ∧ u.size ≤ 64 ∧ 0 ≤ s ∧ s ≤ 1099511627776 ∧ 1 ≤ k ∧ k ≤ 3 := by
  simpa [keyRight] using h

theorem cmp_keyBytes (u v : ByteArray) (s t k l : Int) (h1 : keyRight u s k = true) (h2 : keyRight v t l = true) (X Y : List UInt8) :
    Lib.compareBytes (keyBytes u.data.toList s k ++ X) (keyBytes v.data.toList t l ++ Y) = if kcmp u s k v t l ≠ 0 then kcmp u s k v t l else Lib.compareBytes X Y := by
  obtain ⟨_, _, a1, a2, a3, a4⟩ := right_facts h1
  obtain ⟨_, _, b1, b2, b3, b4⟩ := right_facts h2
  unfold keyBytes
  simp only [List.append_assoc, List.cons_append, List.nil_append]
  rw [cmp_esc, cmp_six _ _ (by omega) (by omega), cmpB_cons, ofNat_k k a3 a4, ofNat_k l b3 b4]
  unfold kcmp or3 icmp
  generalize Lib.compareBytes u.data.toList v.data.toList = c
  generalize Lib.compareBytes X Y = d
  (repeat' split) <;> omega

theorem cmp_keyBytes0 (u v : ByteArray) (s t k l : Int) (h1 : keyRight u s k = true) (h2 : keyRight v t l = true) :
    Lib.compareBytes (keyBytes u.data.toList s k) (keyBytes v.data.toList t l) = kcmp u s k v t l := by
  have := cmp_keyBytes u v s t k l h1 h2 [] []
  rw [List.append_nil, List.append_nil] at this
  rw [this]
  split
  · rfl
  · rename_i h
    have : kcmp u s k v t l = 0 := by simpa using h
    rw [this]; rfl

theorem cmpB_anti : ∀ (l m : List UInt8), Lib.compareBytes m l = - Lib.compareBytes l m
  | [], [] => rfl
  | [], _ :: _ => rfl
  | _ :: _, [] => rfl
  | a :: l, b :: m => by
    rw [cmpB_cons, cmpB_cons, cmpB_anti l m]
    (repeat' split) <;> omega
theorem kcmp_anti (u v : ByteArray) (s t k l : Int) : kcmp v t l u s k = - kcmp u s k v t l := by
  unfold kcmp
  rw [cmpB_anti u.data.toList v.data.toList]
  unfold or3 icmp
  generalize Lib.compareBytes u.data.toList v.data.toList = c
  (repeat' split) <;> omega
theorem kcmp_range (u v : ByteArray) (s t k l : Int) : kcmp u s k v t l = -1 ∨ kcmp u s k v t l = 0 ∨ kcmp u s k v t l = 1 := by
  unfold kcmp
  have h1 := cmpB_range u.data.toList v.data.toList
  have h2 := icmp_range t s
  have h3 := icmp_range l k
  unfold or3
  split
  · exact h1
  · split
    · exact h2
    · exact h3
end Go.Proofs.YtmhklmecpbdljaaDoor
