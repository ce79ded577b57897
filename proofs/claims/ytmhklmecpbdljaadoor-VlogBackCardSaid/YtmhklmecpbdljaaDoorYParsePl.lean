/- The plain law of ikey.Parse: what is read has just these bytes, and a right key's bytes are read. -/
import Derived.Test.YtmhklmecpbdljaaDoorYParse
import Derived.Test.YtmhklmecpbdljaaDoorYIkOrders
namespace Go.Proofs.YtmhklmecpbdljaaDoor
open Go.RowKit
set_option linter.unusedVariables false


theorem userP_eq : ∀ (n : Nat) (l u r : List UInt8), l.length ≤ n → userP l = some (u, r) → l = esc u ++ 0 :: 1 :: r
  | 0, l, u, r, hn, h => by
    have : l = [] := List.eq_nil_of_length_eq_zero (by omega)
    subst this; cases h
  | n + 1, [], u, r, hn, h => by cases h
  | n + 1, [c], u, r, hn, h => by cases h
  | n + 1, c :: d :: t, u, r, hn, h => by
    by_cases hc : c = 0
    · subst hc
      by_cases h1 : d = 1
      · subst h1
        rw [userP_stop] at h
        cases h; rfl
      · by_cases h2 : d = 255
        · subst h2
          rw [userP_nought] at h
          cases hq : userP t with
          | none => rw [hq] at h; cases h
          | some q =>
            obtain ⟨u2, r2⟩ := q
            rw [hq] at h
            simp only [uahead, Option.map_some, Option.some.injEq, Prod.mk.injEq] at h
            obtain ⟨rfl, rfl⟩ := h
            have := userP_eq n t u2 r2 (by simp at hn; omega) hq
            show 0 :: 255 :: t = esc ([0] ++ u2) ++ _
            rw [List.singleton_append, esc_cons, if_pos rfl, this]; rfl
        · rw [userP_bad h1 h2] at h; cases h
    · rw [userP_other hc] at h
      cases hq : userP (d :: t) with
      | none => rw [hq] at h; cases h
      | some q =>
        obtain ⟨u2, r2⟩ := q
        rw [hq] at h
        simp only [uahead, Option.map_some, Option.some.injEq, Prod.mk.injEq] at h
        obtain ⟨rfl, rfl⟩ := h
        have := userP_eq n (d :: t) u2 r2 (by simp at hn ⊢; omega) hq
        show c :: d :: t = esc ([c] ++ u2) ++ _
        rw [List.singleton_append, esc_cons, if_neg hc, this]; rfl

theorem userP_esc (r : List UInt8) : ∀ u : List UInt8, userP (esc u ++ 0 :: 1 :: r) = some (u, r)
  | [] => userP_stop r
  | c :: u => by
    rw [esc_cons]
    by_cases hc : c = 0
    · subst hc
      rw [if_pos rfl]
      show userP (0 :: 255 :: (esc u ++ _)) = _
      rw [userP_nought, userP_esc r u]; rfl
    · rw [if_neg hc]
      show userP (c :: (esc u ++ _)) = _
      rw [userP_other hc, userP_esc r u]; rfl

theorem ofNat_toNat8 (n : Nat) : (UInt8.ofNat n).toNat = n % 256 := by simp

theorem seven_six (a : Nat) (c : UInt8) (h : a < 281474976710656) : seven (six a ++ [c]) = some (a, c.toNat) := by
  have e : rdN 6 (six a ++ [c]) = (a, [c], false) := by
    simp only [six, List.cons_append, List.nil_append, rdN, rdB, byteAt, ofNat_toNat8]
    congr 1
    omega
  unfold seven
  rw [e]
  rfl

theorem seven_eq (r : List UInt8) (a k : Nat) (h : seven r = some (a, k)) : ∃ c : UInt8, r = six a ++ [c] ∧ k = c.toNat := by
  unfold seven at h
  rcases r with _ | ⟨x0, _ | ⟨x1, _ | ⟨x2, _ | ⟨x3, _ | ⟨x4, _ | ⟨x5, _ | ⟨x6, _ | ⟨x7, t⟩⟩⟩⟩⟩⟩⟩⟩
  · simp [rdN, rdB] at h
  · simp [rdN, rdB] at h
  · simp [rdN, rdB] at h
  · simp [rdN, rdB] at h
  · simp [rdN, rdB] at h
  · simp [rdN, rdB] at h
  · simp [rdN, rdB] at h
  · simp only [rdN, rdB, if_true, Option.some.injEq, Prod.mk.injEq] at h
    obtain ⟨rfl, rfl⟩ := h
    refine ⟨x6, ?_, rfl⟩
    have b0 := x0.toNat_lt
    have b1 := x1.toNat_lt
    have b2 := x2.toNat_lt
    have b3 := x3.toNat_lt
    have b4 := x4.toNat_lt
    have b5 := x5.toNat_lt
    have key : ∀ (x : UInt8) (n : Nat), n % 256 = x.toNat → x = UInt8.ofNat n := fun x n hn => by
      apply UInt8.toNat_inj.1; rw [ofNat_toNat8, hn]
    simp only [six, List.cons_append, List.nil_append, List.cons.injEq, and_true, byteAt]
    refine ⟨key _ _ ?_, key _ _ ?_, key _ _ ?_, key _ _ ?_, key _ _ ?_, key _ _ ?_⟩ <;> omega
  · simp [rdN, rdB] at h

theorem parse_plain {l u r : List UInt8} {a k : Nat} (h : userP l = some (u, r)) (h2 : seven r = some (a, k)) : l = keyBytes u (1099511627776 - a) (255 - k) := by
  obtain ⟨c, rfl, rfl⟩ := seven_eq r a k h2
  have e := userP_eq _ l u _ (Nat.le_refl _) h
  rw [e]
  unfold keyBytes
  have e1 : (1099511627776 - (1099511627776 - (a : Int))).toNat = a := by omega
  have e2 : UInt8.ofNat (255 - (255 - (c.toNat : Int))).toNat = c := by
    apply UInt8.toNat_inj.1; rw [ofNat_toNat8]; have := c.toNat_lt; omega
  rw [e1, e2]
  simp

theorem parse_back {u : List UInt8} {s k : Int} (h0 : 0 ≤ s) (h1 : s ≤ 1099511627776) (h2 : 1 ≤ k) (h3 : k ≤ 3) : ∃ r, userP (keyBytes u s k) = some (u, r) ∧ seven r = some ((1099511627776 - s).toNat, (255 - k).toNat) := by
  refine ⟨six (1099511627776 - s).toNat ++ [UInt8.ofNat (255 - k).toNat], ?_, ?_⟩
  · have : keyBytes u s k = esc u ++ 0 :: 1 :: (six (1099511627776 - s).toNat ++ [UInt8.ofNat (255 - k).toNat]) := by unfold keyBytes; simp
    rw [this, userP_esc]
  · rw [seven_six _ _ (by omega), ofNat_toNat8]
    have : (255 - k).toNat % 256 = (255 - k).toNat := Nat.mod_eq_of_lt (by omega)
    rw [this]
end Go.Proofs.YtmhklmecpbdljaaDoor
