/- Pairs read of bytes: plain laws. -/
import Derived.Test.YtebnllpcagkkbaaBopn
import Derived.Test.YtebnllpcagkkbaaBtight
namespace Go.Proofs.Ytebnllpcagkkbaa
open Go.RowKit
set_option linter.unusedVariables false
set_option linter.unusedSimpArgs false

theorem snum_form {o : Option (List UInt8)} {n : Nat} {r : List UInt8} (h : sNum o = (n, some r)) : o = some (num n ++ r) ∧ n < 9223372036854775808 := by
  cases o with
  | none => cases h
  | some l =>
    cases e : rdNum 9 true l with
    | none => rw [sNum_no e] at h; cases h
    | some x =>
      obtain ⟨m, q⟩ := x
      rw [sNum_yes e] at h
      cases h
      rw [← (rdNum_lt e).1]
      exact ⟨rfl, (rdNum_lt e).2⟩
theorem snum_mk (n : Nat) (h : n < 9223372036854775808) (r : List UInt8) : sNum (some (num n ++ r)) = (n, some r) := sNum_yes (rdNum9_num h r)
theorem sRaw_if (n : Nat) (l : List UInt8) : sRaw n (some l) = if n ≤ l.length then (l.take n, some (l.drop n)) else ([], none) := rfl
theorem sRaw_none (n : Nat) : sRaw n none = ([], none) := rfl
theorem stepP_mk (last : ByteArray) (n m s : Nat) (r : List UInt8) (hn : n ≤ last.size) (h1 : n < 9223372036854775808) (h2 : m < 9223372036854775808) (h3 : s < 9223372036854775808) (hr : m + s ≤ r.length) :
    stepP last (num n ++ (num m ++ (num s ++ r))) = some (⟨last.extract 0 n ++ ⟨(r.take m).toArray⟩, ⟨((r.drop m).take s).toArray⟩⟩, (r.drop m).drop s) := by
  have e1 := snum_mk n h1 (num m ++ (num s ++ r))
  have e2 := snum_mk m h2 (num s ++ r)
  have e3 := snum_mk s h3 r
  have e4 : sRaw m (some r) = (r.take m, some (r.drop m)) := by rw [sRaw_if, if_pos (by omega)]
  have e5 : sRaw s (some (r.drop m)) = ((r.drop m).take s, some ((r.drop m).drop s)) := by rw [sRaw_if, if_pos (by rw [List.length_drop]; omega)]
  unfold stepP
  rw [e1]
  simp only
  rw [e2]
  simp only
  rw [e3]
  simp only
  rw [e4]
  simp only
  rw [e5]
  rw [if_neg]
  rintro (h | h)
  · cases h
  · omega
theorem stepP_form {last : ByteArray} {l r : List UInt8} {x : PairD} (h : stepP last l = some (x, r)) :
    ∃ n m s q, l = num n ++ (num m ++ (num s ++ q)) ∧ n ≤ last.size ∧ n < 9223372036854775808 ∧ m < 9223372036854775808 ∧ s < 9223372036854775808 ∧ m + s ≤ q.length ∧ x = ⟨last.extract 0 n ++ ⟨(q.take m).toArray⟩, ⟨((q.drop m).take s).toArray⟩⟩ ∧ r = (q.drop m).drop s := by
  unfold stepP at h
  generalize hE1 : sNum (some l) = E1 at h
  obtain ⟨n, o1⟩ := E1
  simp only at h
  generalize hE2 : sNum o1 = E2 at h
  obtain ⟨m, o2⟩ := E2
  simp only at h
  generalize hE3 : sNum o2 = E3 at h
  obtain ⟨s, o3⟩ := E3
  simp only at h
  by_cases hb : o3 = none ∨ last.size < n
  · rw [if_pos hb] at h; cases h
  rw [if_neg hb] at h
  cases o3 with
  | none => exact absurd (.inl rfl) hb
  | some q =>
    obtain ⟨rfl, k3⟩ := snum_form hE3
    obtain ⟨rfl, k2⟩ := snum_form hE2
    obtain ⟨e1, k1⟩ := snum_form hE1
    have e1 : l = num n ++ (num m ++ (num s ++ q)) := by simpa using e1
    have hn : n ≤ last.size := by
      have : ¬ last.size < n := fun h => hb (.inr h)
      omega
    generalize hE4 : sRaw m (some q) = E4 at h
    obtain ⟨k4, o4⟩ := E4
    simp only at h
    generalize hE5 : sRaw s o4 = E5 at h
    obtain ⟨k5, o5⟩ := E5
    simp only at h
    cases o5 with
    | none => cases h
    | some r' =>
      simp only [Option.some.injEq, Prod.mk.injEq] at h
      obtain ⟨rfl, rfl⟩ := h
      rw [sRaw_if] at hE4
      by_cases hm : m ≤ q.length
      · simp only [if_pos hm, Prod.mk.injEq] at hE4
        obtain ⟨rfl, rfl⟩ := hE4
        rw [sRaw_if] at hE5
        by_cases hs : s ≤ (q.drop m).length
        · simp only [if_pos hs, Prod.mk.injEq, Option.some.injEq] at hE5
          obtain ⟨rfl, rfl⟩ := hE5
          rw [List.length_drop] at hs
          exact ⟨n, m, s, q, e1, hn, k1, k2, k3, by omega, rfl, rfl⟩
        · simp only [if_neg hs, Prod.mk.injEq] at hE5
          obtain ⟨_, h2⟩ := hE5
          cases h2
      · simp only [if_neg hm, Prod.mk.injEq] at hE4
        obtain ⟨_, rfl⟩ := hE4
        rw [sRaw_none] at hE5
        simp only [Prod.mk.injEq] at hE5
        obtain ⟨_, h2⟩ := hE5
        cases h2
theorem stepP_size {last : ByteArray} {l r : List UInt8} {x : PairD} (h : stepP last l = some (x, r)) : x.key.size + r.length ≤ last.size + l.length ∧ x.val.size ≤ l.length ∧ r.length + 3 ≤ l.length := by
  obtain ⟨n, m, s, q, rfl, hn, _, _, _, hms, rfl, rfl⟩ := stepP_form h
  have p1 := num_pos n
  have p2 := num_pos m
  have p3 := num_pos s
  simp only [List.length_append, List.length_drop, ByteArray.size_append, ByteArray.size_extract, size_mk, List.length_take]
  omega
theorem prsP_size : ∀ (f : Nat) (last : ByteArray) (l : List UInt8) (L : List PairD), prsP f last l = some L → 3 * L.length ≤ l.length ∧ ∀ x ∈ L, x.key.size ≤ last.size + l.length ∧ x.val.size ≤ l.length
  | 0, last, l, L, h => by simp only [prsP, Option.some.injEq] at h; subst h; exact ⟨by simp, fun x hx => by cases hx⟩
  | f + 1, last, l, L, h => by
    rw [prsP] at h
    by_cases h0 : l = []
    · rw [if_pos h0] at h; simp only [Option.some.injEq] at h; subst h; exact ⟨by simp, fun x hx => by cases hx⟩
    · rw [if_neg h0] at h
      cases hs : stepP last l with
      | none => rw [hs] at h; cases h
      | some y =>
        obtain ⟨x, r⟩ := y
        rw [hs] at h
        simp only at h
        obtain ⟨L', h1, rfl⟩ := Option.map_eq_some_iff.1 h
        obtain ⟨i1, i2⟩ := prsP_size f x.key r L' h1
        obtain ⟨j1, j2, j3⟩ := stepP_size hs
        refine ⟨by rw [List.length_cons]; omega, fun z hz => ?_⟩
        rcases List.mem_cons.1 hz with rfl | hz
        · omega
        · have := i2 z hz; omega

/-- what Open makes of bytes -/
def openL (b : List UInt8) : Option (List PairD) := if beN ((b.drop (b.length - 5)).take 4) > (b.length - 5) / 4 then none else prsP (b.length - 5 - 4 * beN ((b.drop (b.length - 5)).take 4)) ⟨#[]⟩ (b.take (b.length - 5 - 4 * beN ((b.drop (b.length - 5)).take 4)))
def evB (b : List UInt8) : Nat := (b.getD (b.length - 1) 0).toNat
def openB (b : List UInt8) : Option (List PairD) :=
  if b.length < 5 then none else
  match openL b with
  | none => none
  | some L => if 1 ≤ evB b ∧ evB b ≤ 64 ∧ risesB L = true ∧ b = buildB (evB b) L then some L else none
theorem bodyB_any {l : List PairD} {M : Nat} (hM : M < 4294967296) (h : ∀ x ∈ l, x.key.size ≤ M ∧ x.val.size ≤ M) (every : Nat) : ∀ k, k ≤ l.length → (bodyB every l k).length ≤ k * (27 + 2 * M)
  | 0, _ => Nat.zero_le _
  | k + 1, hk => by
    have ih := bodyB_any hM h every k (by omega)
    have h1 : (pAt l k).key.size ≤ M ∧ (pAt l k).val.size ≤ M := by rw [pAt_get (by omega)]; exact h _ (List.getElem_mem _)
    have h2 := pairB_len (shN every l k) (pAt l k) (shN_le every l k)
    have n1 := num_len9 (n := shN every l k) (by have := shN_le every l k; omega)
    have n2 := num_len9 (n := (pAt l k).key.size - shN every l k) (by omega)
    have n3 := num_len9 (n := (pAt l k).val.size) (by omega)
    rw [bodyB_succ, List.length_append, Nat.add_mul]
    omega
end Go.Proofs.Ytebnllpcagkkbaa
