/- Pairs laid and read back: plain law. -/
import Derived.Test.YtebnllpcagkkbaaBlk
namespace Go.Proofs.Ytebnllpcagkkbaa
open Go.RowKit
set_option linter.unusedVariables false
set_option linter.unusedSimpArgs false

/-- the bytes of the last r pairs -/
def sufB (every : Nat) (l : List PairD) : Nat → List UInt8
  | 0 => []
  | r + 1 => pairB (shN every l (l.length - (r + 1))) (pAt l (l.length - (r + 1))) ++ sufB every l r
theorem sufB_body (every : Nat) (l : List PairD) : ∀ r, r ≤ l.length → bodyB every l (l.length - r) ++ sufB every l r = bodyB every l l.length
  | 0, _ => by rw [sufB, List.append_nil]; rfl
  | r + 1, h => by
    have ih := sufB_body every l r (by omega)
    rw [sufB, ← List.append_assoc, ← bodyB_succ, show l.length - (r + 1) + 1 = l.length - r by omega]
    exact ih
theorem beN_word4 (n : Nat) (h : n < 4294967296) : beN (word4 n) = n := by
  unfold beN word4
  simp only [List.foldl_cons, List.foldl_nil, toNat_ofNat8]
  omega
theorem step_back (every : Nat) (l : List PairD) (hsz : ∀ x ∈ l, x.key.size ≤ 1000000 ∧ x.val.size ≤ 1000000) (k : Nat) (hk : k < l.length) (S : List UInt8) :
    stepP (lastK l k) (pairB (shN every l k) (pAt l k) ++ S) = some (pAt l k, S) := by
  have hx : (pAt l k).key.size ≤ 1000000 ∧ (pAt l k).val.size ≤ 1000000 := by rw [pAt_get hk]; exact hsz _ (List.getElem_mem hk)
  have hn := shN_le every l k
  have hdk := dataLen (pAt l k).key
  have hdv := dataLen (pAt l k).val
  have hlast : shN every l k ≤ (lastK l k).size ∧ (lastK l k).data.toList.take (shN every l k) = (pAt l k).key.data.toList.take (shN every l k) := by
    unfold shN
    by_cases h0 : k % every = 0
    · rw [if_pos h0]; exact ⟨Nat.zero_le _, by simp⟩
    · rw [if_neg h0]
      have hk0 : k ≠ 0 := fun e => h0 (by rw [e, Nat.zero_mod])
      unfold lastK
      rw [if_neg hk0]
      unfold sharedB
      refine ⟨?_, (sharedL_take _ _).symm⟩
      rw [← dataLen]; exact sharedL_le' _ _
  generalize shN every l k = n at *
  generalize lastK l k = last at *
  generalize pAt l k = x at *
  have e : pairB n x ++ S = num n ++ (num (x.key.size - n) ++ (num x.val.size ++ (x.key.data.toList.drop n ++ (x.val.data.toList ++ S)))) := by unfold pairB; simp
  rw [e, stepP_mk last n (x.key.size - n) x.val.size _ hlast.1 (by omega) (by omega) (by omega) (by simp only [List.length_append, List.length_drop, hdk, hdv]; omega)]
  have e1 : (x.key.data.toList.drop n ++ (x.val.data.toList ++ S)).take (x.key.size - n) = x.key.data.toList.drop n := by
    rw [show x.key.size - n = (x.key.data.toList.drop n).length by rw [List.length_drop, hdk]]; exact List.take_left
  have e2 : (x.key.data.toList.drop n ++ (x.val.data.toList ++ S)).drop (x.key.size - n) = x.val.data.toList ++ S := by
    rw [show x.key.size - n = (x.key.data.toList.drop n).length by rw [List.length_drop, hdk]]; exact List.drop_left
  rw [e1, e2]
  have e3 : (x.val.data.toList ++ S).take x.val.size = x.val.data.toList := by rw [← hdv]; exact List.take_left
  have e4 : (x.val.data.toList ++ S).drop x.val.size = S := by rw [← hdv]; exact List.drop_left
  rw [e3, e4]
  have e5 : last.extract 0 n ++ ⟨(x.key.data.toList.drop n).toArray⟩ = x.key := bo_ext (by
    rw [ByteArray.data_append, Array.toList_append, ByteArray.data_extract, Array.toList_extract]
    have : List.extract last.data.toList 0 n = last.data.toList.take n := by simp [List.extract]
    rw [this, hlast.2]
    exact List.take_append_drop n _)
  rw [e5]
theorem prs_back (every : Nat) (l : List PairD) (hsz : ∀ x ∈ l, x.key.size ≤ 1000000 ∧ x.val.size ≤ 1000000) : ∀ r, r ≤ l.length → ∀ f, (sufB every l r).length ≤ f → prsP f (lastK l (l.length - r)) (sufB every l r) = some (l.drop (l.length - r))
  | 0, _, f, _ => by
    rw [sufB, Nat.sub_zero, List.drop_of_length_le (Nat.le_refl _)]
    cases f <;> simp [prsP]
  | r + 1, h, f, hf => by
    have hk : l.length - (r + 1) < l.length := by omega
    have hst := step_back every l hsz (l.length - (r + 1)) hk (sufB every l r)
    have hss := stepP_size hst
    rw [sufB] at hf ⊢
    have hne : pairB (shN every l (l.length - (r + 1))) (pAt l (l.length - (r + 1))) ++ sufB every l r ≠ [] := fun e => by
      rw [e] at hss; simp at hss
    obtain ⟨f', rfl⟩ : ∃ f', f = f' + 1 := ⟨f - 1, by
      have := List.length_pos_iff.2 hne
      omega⟩
    rw [prsP, if_neg hne, hst]
    simp only
    have ih := prs_back every l hsz r (by omega) f' (by omega)
    have e : lastK l (l.length - r) = (pAt l (l.length - (r + 1))).key := by
      rw [show l.length - r = l.length - (r + 1) + 1 by omega, lastK_succ l _ hk, pAt_get hk]
    rw [e] at ih
    rw [ih]
    simp only [Option.map_some, Option.some.injEq]
    rw [List.drop_eq_getElem_cons hk, pAt_get hk, show l.length - (r + 1) + 1 = l.length - r by omega]
theorem open_back (ev : Nat) (l : List PairD) (h1 : 1 ≤ ev) (h2 : ev ≤ 64) (hl : l.length ≤ 1000000) (hsz : ∀ x ∈ l, x.key.size ≤ 1000000 ∧ x.val.size ≤ 1000000) (hr : risesB l = true) : openB (buildB ev l) = some l ∧ evB (buildB ev l) = ev := by
  have hbl := build_len ev l
  have hsl := starts_le ev l l.length
  have hform : buildB ev l = bodyB ev l l.length ++ ((starts ev l l.length).flatMap word4 ++ (word4 (starts ev l l.length).length ++ [UInt8.ofNat ev])) := by
    unfold buildB tailB; rw [List.flatMap_append]; simp
  have hwl := word4_len (starts ev l l.length)
  have hev : evB (buildB ev l) = ev := by
    unfold evB
    have e : (buildB ev l).getD ((buildB ev l).length - 1) 0 = UInt8.ofNat ev := by
      have hB : buildB ev l = (bodyB ev l l.length ++ (tailB ev l).flatMap word4) ++ [UInt8.ofNat ev] := rfl
      rw [hB, List.length_append, List.length_cons, List.length_nil, Nat.zero_add, Nat.add_sub_cancel, List.getD, List.getElem?_append_right (Nat.le_refl _), Nat.sub_self]; rfl
    rw [e, toNat_ofNat8]; omega
  refine ⟨?_, hev⟩
  have hen : (buildB ev l).length - 5 = (bodyB ev l l.length).length + 4 * (starts ev l l.length).length := by omega
  have hd4 : ((buildB ev l).drop ((buildB ev l).length - 5)).take 4 = word4 (starts ev l l.length).length := by
    rw [hen]
    rw [hform, ← List.append_assoc, show (bodyB ev l l.length).length + 4 * (starts ev l l.length).length = (bodyB ev l l.length ++ (starts ev l l.length).flatMap word4).length by rw [List.length_append, hwl], List.drop_left]
    rfl
  have hN : beN (((buildB ev l).drop ((buildB ev l).length - 5)).take 4) = (starts ev l l.length).length := by rw [hd4]; exact beN_word4 _ (by omega)
  have ho : openL (buildB ev l) = some l := by
    unfold openL
    rw [hN, hen, if_neg (by omega)]
    rw [show (bodyB ev l l.length).length + 4 * (starts ev l l.length).length - 4 * (starts ev l l.length).length = (bodyB ev l l.length).length by omega]
    have ht : (buildB ev l).take (bodyB ev l l.length).length = bodyB ev l l.length := by rw [hform]; exact List.take_left
    rw [ht]
    have hp := prs_back ev l hsz l.length (Nat.le_refl _) (bodyB ev l l.length).length (by
      have := sufB_body ev l l.length (Nat.le_refl _)
      rw [← this, List.length_append]; omega)
    have hs := sufB_body ev l l.length (Nat.le_refl _)
    rw [Nat.sub_self] at hp hs
    have e0 : bodyB ev l 0 = [] := rfl
    rw [e0, List.nil_append] at hs
    rw [hs] at hp
    exact hp
  unfold openB
  rw [if_neg (by omega), ho]
  simp only
  rw [hev, if_pos ⟨h1, h2, hr, rfl⟩]
end Go.Proofs.Ytebnllpcagkkbaa
