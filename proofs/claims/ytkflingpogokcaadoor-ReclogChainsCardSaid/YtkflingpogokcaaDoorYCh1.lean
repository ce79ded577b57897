/- Chapter 09: ReclogChains: the plain part. -/
import Derived.Test.YtkflingpogokcaaDoorYLg5
import Derived.Test.YtkflingpogokcaaDoorYRl8
import Derived.Test.YtkflingpogokcaaDoorYPl1
namespace Go.Proofs.YtkflingpogokcaaDoor
open Go.RowKit
set_option linter.unusedVariables false
set_option linter.unusedSimpArgs false

/-- a log over the zones 0, 1, ..: the records that stand in each, and how many of all are flushed -/
structure CI (n s : Nat) (D : Dv) (L : List (List (List UInt8))) (sf : Nat) : Prop where
  dn : D.n = n
  ds : D.size = s
  down : D.down = false
  left : D.left < 0
  len : L.length ≤ n
  lenA : D.A.length = n
  b : ∀ k (h : k < L.length) (h2 : k < D.A.length), D.A[k].b = flR L[k]
  e : ∀ k (h2 : k < D.A.length), L.length ≤ k → D.A[k] = ⟨0, [], 0⟩
  fl : ∀ k (h2 : k < D.A.length), k + 1 < L.length → D.A[k].fl = D.A[k].b.length
  la : ∀ M R, L = M ++ [R] → ∃ m, m ≤ R.length ∧ (∀ h2 : M.length < D.A.length, D.A[M.length].fl = (flR (R.take m)).length) ∧ sf = M.flatten.length + m
  sm : ∀ K ∈ L, ∀ t ∈ K, t.length ≤ 300
  s0 : L = [] → sf = 0
theorem CI.new (n s o : Nat) : CI n s (dv0 n s o) [] 0 :=
  ⟨rfl, rfl, rfl, (by show (-1 : Int) < 0; decide), Nat.zero_le _, List.length_replicate, fun k h => absurd h (Nat.not_lt_zero _), fun k h2 _ => List.getElem_replicate _, fun k _ h => absurd h (Nat.not_lt_zero _), fun M R h => by simp at h, fun K h => by simp at h, fun _ => rfl⟩
theorem CI.flush {n s sf : Nat} {D : Dv} {L : List (List (List UInt8))} (h : CI n s D L sf) : ∃ D', zflu D = (D', 0) ∧ CI n s D' L L.flatten.length ∧ D'.done = D.done + 1 ∧ ∀ k (h2 : k < D'.A.length), D'.A[k].fl = D'.A[k].b.length := by
  refine ⟨{ D with done := D.done + 1, A := D.A.mapIdx zflz }, ?_, ?_, rfl, ?_⟩
  · unfold zflu zthen
    rw [if_neg (by rw [h.down]; simp), zcmd_free h.left, if_pos rfl]
  · have hget : ∀ k (h2 : k < (D.A.mapIdx zflz).length) (h3 : k < D.A.length), (D.A.mapIdx zflz)[k] = ⟨D.A[k].st, D.A[k].b, D.A[k].b.length⟩ := fun k h2 h3 => by simp [zflz]
    have hlm : (D.A.mapIdx zflz).length = D.A.length := by simp
    refine ⟨h.dn, h.ds, h.down, h.left, h.len, hlm.trans h.lenA, fun k h1 h2 => ?_, fun k h2 h3 => ?_, fun k h2 h3 => ?_, fun M R e => ⟨R.length, Nat.le_refl _, fun h2 => ?_, by rw [e]; simp⟩, h.sm, fun e => by rw [e]; rfl⟩
    · have h2' : k < D.A.length := by rw [← hlm]; exact h2
      show ((D.A.mapIdx zflz)[k]).b = _
      rw [hget k h2 h2']; exact h.b k h1 h2'
    · have h2' : k < D.A.length := by rw [← hlm]; exact h2
      show (D.A.mapIdx zflz)[k] = _
      rw [hget k h2 h2', h.e k h2' h3]; rfl
    · have h2' : k < D.A.length := by rw [← hlm]; exact h2
      show ((D.A.mapIdx zflz)[k]).fl = ((D.A.mapIdx zflz)[k]).b.length
      rw [hget k h2 h2']
    · have h2' : M.length < D.A.length := by rw [← hlm]; exact h2
      show ((D.A.mapIdx zflz)[M.length]).fl = _
      rw [hget _ h2 h2', h.b M.length (by rw [e]; simp) h2']
      have e2 : L[M.length]'(by rw [e]; simp) = R := by simp [e]
      rw [e2, List.take_of_length_le (Nat.le_refl _)]
  · intro k h2
    show ((D.A.mapIdx zflz)[k]).fl = ((D.A.mapIdx zflz)[k]).b.length
    simp [zflz]
theorem CI.grow {n s sf : Nat} {D : Dv} {L : List (List (List UInt8))} (h : CI n s D L sf) (hsf : sf = L.flatten.length) (hf : ∀ k (h2 : k < D.A.length), D.A[k].fl = D.A[k].b.length) (hn : L.length < n) : CI n s D (L ++ [[]]) sf := by
  refine ⟨h.dn, h.ds, h.down, h.left, by simp; omega, h.lenA, fun k h1 h2 => ?_, fun k h2 h3 => h.e k h2 (by simp at h3; omega), fun k h2 _ => hf k h2, fun M R e => ?_, fun K hK t ht => ?_, fun e => by simp at e⟩
  · by_cases hk : k < L.length
    · rw [h.b k hk h2, List.getElem_append_left hk]
    · have : k = L.length := by simp at h1; omega
      subst this
      rw [h.e _ h2 (Nat.le_refl _), List.getElem_append_right (Nat.le_refl _)]
      simp [flR]
  · obtain ⟨rfl, e2⟩ := List.append_inj' e rfl
    obtain rfl : R = [] := by simpa using e2.symm
    refine ⟨0, Nat.le_refl _, fun h2 => ?_, by rw [hsf]; rfl⟩
    rw [h.e _ h2 (Nat.le_refl _)]
    rfl
  · rw [List.mem_append] at hK
    rcases hK with hK | hK
    · exact h.sm K hK t ht
    · obtain rfl : K = [] := by simpa using hK
      simp at ht
theorem CI.zst_in {n s sf : Nat} {D : Dv} {L : List (List (List UInt8))} (h : CI n s D L sf) (hn : L.length < n) : zst D (L.length : Nat) = 0 := by
  have h2 : L.length < D.A.length := by rw [h.lenA]; exact hn
  rw [zst_at _ h2, h.e _ h2 (Nat.le_refl _)]
  rfl
theorem CI.zst_out {n s sf : Nat} {D : Dv} {L : List (List (List UInt8))} (h : CI n s D L sf) (hn : ¬ L.length < n) : zst D (L.length : Nat) ≠ 0 := by
  have e : zst D (L.length : Nat) = -1 := by
    unfold zst
    rw [dif_neg (by rw [h.lenA]; rintro ⟨_, h3⟩; exact hn (by simpa using h3))]
  rw [e]; decide
theorem flR_snoc9 (R : List (List UInt8)) (t : List UInt8) : flR (R ++ [t]) = flR R ++ frB t := flR_snoc R t
/-- a record is taken, or no zone more may be opened -/
theorem CI.append {n s sf : Nat} {D : Dv} {M : List (List (List UInt8))} {R : List (List UInt8)} (h : CI n s D (M ++ [R]) sf) {b : List UInt8} (hb : b.length ≤ 300) (hr : ((frB b).length : Int) ≤ zrm D (M.length : Nat)) :
    zapp D (M.length : Nat) (frB b) = (D, 72) ∨ ∃ D', zapp D (M.length : Nat) (frB b) = (D', 0) ∧ CI n s D' (M ++ [R ++ [b]]) sf ∧ D'.done = D.done + 1 ∧ zpt D (M.length : Nat) = ((flR R).length : Nat) ∧ zpt D' (M.length : Nat) = ((flR R).length + (frB b).length : Nat) ∧ lread D' (M.length : Nat) ((flR R).length : Nat) (b.length : Nat) = (b, 0) ∧ (flR R).length + (frB b).length ≤ D.size := by
  have hlen : M.length < n := by have := h.len; simp at this; omega
  have hk : M.length < D.A.length := by rw [h.lenA]; exact hlen
  have hdn : M.length < D.n := by rw [h.dn]; exact hlen
  have hbk : D.A[M.length].b = flR R := by rw [h.b M.length (by simp) hk]; simp
  have hf5 := frB_pos b
  rw [zrm_at _ hk] at hr
  have hst : D.A[M.length].st ≠ 2 := fun e => by rw [if_pos e] at hr; omega
  rw [if_neg hst, hbk] at hr
  have hfit : (flR R).length + (frB b).length ≤ D.size := by omega
  rw [zapp_in h.down hdn hk]
  unfold zappA
  rw [if_neg hst]
  by_cases h0 : D.A[M.length].st = 0 ∧ D.op ≤ zopn D.A
  · exact .inl (if_pos h0)
  · rw [if_neg h0, if_neg (by rw [hbk]; omega)]
    refine .inr ⟨{ D with done := D.done + 1, A := D.A.set M.length ⟨if D.A[M.length].b.length + (frB b).length = D.size then 2 else 1, D.A[M.length].b ++ frB b, D.A[M.length].fl⟩ }, ?_, ?_, rfl, ?_, ?_, ?_, hfit⟩
    · rw [zcmd_free (by exact h.left)]
    · obtain ⟨m, hm1, hm2, hm3⟩ := h.la M R rfl
      refine ⟨h.dn, h.ds, h.down, h.left, by have := h.len; simpa using this, by simp only [List.length_set]; exact h.lenA, fun k h1 h2 => ?_, fun k h2 h3 => ?_, fun k h2 h3 => ?_, fun M2 R2 e => ?_, fun K hK t ht => ?_, fun e => by simp at e⟩
      · simp only [List.length_set] at h2
        have h1' : k < M.length + 1 := by simpa using h1
        by_cases e : k = M.length
        · subst e
          simp only [List.getElem_set_self]
          rw [hbk]
          simp [flR_snoc9]
        · simp only
          rw [List.getElem_set_ne (fun e2 => e e2.symm), h.b k (by simp; omega) h2]
          rw [List.getElem_append_left (by omega), List.getElem_append_left (by omega)]
      · simp only [List.length_set] at h2
        have h3' : M.length + 1 ≤ k := by simpa using h3
        simp only
        rw [List.getElem_set_ne (by omega)]
        exact h.e k h2 (by simp; omega)
      · simp only [List.length_set] at h2
        have h3' : k + 1 < M.length + 1 := by simpa using h3
        simp only
        rw [List.getElem_set_ne (by omega)]
        exact h.fl k h2 (by simp; omega)
      · obtain ⟨rfl, e2⟩ := List.append_inj' e rfl
        obtain rfl : R ++ [b] = R2 := by simpa using e2
        refine ⟨m, by simp; omega, fun h2 => ?_, hm3⟩
        simp only [List.getElem_set_self]
        rw [hm2 hk, List.take_append_of_le_length hm1]
      · rw [List.mem_append] at hK
        rcases hK with hK | hK
        · exact h.sm K (by simp [hK]) t ht
        · obtain rfl : K = R ++ [b] := by simpa using hK
          rw [List.mem_append] at ht
          rcases ht with ht | ht
          · exact h.sm R (by simp) t ht
          · obtain rfl : t = b := by simpa using ht
            exact hb
    · rw [zpt_at _ hk, hbk]
    · rw [zpt_at _ (by simp only [List.length_set]; exact hk)]
      simp only [List.getElem_set_self, List.length_append]
      rw [hbk]
    · refine lread_whole (t := b) (I := frB b) (by omega) ?_ ?_ rfl rfl
      · rw [zread_in (by exact h.down) (by exact hdn) (by simp only [List.length_set]; exact hk)]
        simp only [List.getElem_set_self]
        rw [hbk, fsz_frB]
        unfold zrdb
        rw [if_neg (by rw [List.length_append]; omega)]
        simp
      · have := ScanIs.one (t := b) (by omega) (r := []) rfl
        rwa [List.append_nil] at this
theorem scan_full {K : List (List UInt8)} (h : ∀ t ∈ K, t.length ≤ 300) : ScanIs (flR K) K := by
  refine ⟨fun t ht => by have := h t ht; omega, [], by rw [List.append_nil]; rfl, rfl⟩
theorem CI.scans {n s sf : Nat} {D : Dv} {L : List (List (List UInt8))} (h : CI n s D L sf) : ∀ k (h1 : k < L.length) (h2 : k < D.A.length), ScanIs D.A[k].b L[k] := fun k h1 h2 => by
  rw [h.b k h1 h2]
  exact scan_full (h.sm _ (List.getElem_mem h1))
/-- how many records are whole in what is left -/
theorem whole_of (K : List (List UInt8)) (cut : Nat) : ∃ m, m ≤ K.length ∧ (flR (K.take m)).length ≤ cut ∧ (∀ h : m < K.length, cut < (flR (K.take (m + 1))).length) ∧ ∀ j, j ≤ K.length → (flR (K.take j)).length ≤ cut → j ≤ m := by
  have hmono : ∀ i j, i ≤ j → (flR (K.take i)).length ≤ (flR (K.take j)).length := fun i j hij => by
    have := flR_take_le (K.take j) i
    rwa [List.take_take, Nat.min_eq_left hij] at this
  have key : ∀ d, d ≤ K.length → ∃ m, m ≤ d ∧ (flR (K.take m)).length ≤ cut ∧ (∀ h : m < d, cut < (flR (K.take (m + 1))).length) := by
    intro d
    induction d with
    | zero => exact fun _ => ⟨0, Nat.le_refl _, by simp [flR], fun h => absurd h (Nat.not_lt_zero _)⟩
    | succ d ih =>
      intro hd
      obtain ⟨m, h1, h2, h3⟩ := ih (by omega)
      by_cases hm : m < d
      · exact ⟨m, by omega, h2, fun _ => h3 hm⟩
      · obtain rfl : m = d := by omega
        by_cases hc : cut < (flR (K.take (m + 1))).length
        · exact ⟨m, by omega, h2, fun _ => hc⟩
        · exact ⟨m + 1, Nat.le_refl _, by omega, fun h => absurd h (Nat.lt_irrefl _)⟩
  obtain ⟨m, h1, h2, h3⟩ := key K.length (Nat.le_refl _)
  refine ⟨m, h1, h2, h3, fun j hj hc => ?_⟩
  rcases Nat.lt_or_ge m j with h | h
  · have h4 := h3 (by omega)
    have := hmono (m + 1) j h
    omega
  · exact h
/-- behind a crash -/
theorem CI.crash {n s sf : Nat} {D : Dv} {L : List (List (List UInt8))} (h : CI n s D L sf) (hok : DvOk D) (keep : List Int) : ∃ (L' : List (List (List UInt8))) (c : Nat), L'.length = L.length ∧ (zcrs D keep).down = false ∧ (zcrs D keep).n = n ∧ L'.flatten = L.flatten.take c ∧ sf ≤ c ∧ c ≤ L.flatten.length ∧
    (∀ k (h1 : k < L'.length) (h2 : k < (zcrs D keep).A.length), ScanIs (zcrs D keep).A[k].b L'[k]) ∧ (∀ k (h1 : k < L'.length) (h2 : k < (zcrs D keep).A.length), k + 1 < L'.length → flR L'[k] = (zcrs D keep).A[k].b) := by
  have hlA : (zcrs D keep).A.length = D.A.length := by simp [zcrs]
  have hget : ∀ k (h2 : k < (zcrs D keep).A.length) (h3 : k < D.A.length), (zcrs D keep).A[k].b = D.A[k].b.take (D.A[k].fl + zmore keep k D.A[k]) := fun k h2 h3 => by
    simp [zcrs, zcut]
  rcases List.eq_nil_or_concat L with rfl | ⟨M, R, rfl⟩
  · exact ⟨[], 0, rfl, rfl, h.dn, rfl, by rw [h.s0 rfl]; exact Nat.le_refl _, Nat.zero_le _, fun k h1 => absurd h1 (Nat.not_lt_zero _), fun k h1 => absurd h1 (Nat.not_lt_zero _)⟩
  · rw [List.concat_eq_append] at *
    have hlen : M.length < n := by have := h.len; simp at this; omega
    have hk : M.length < D.A.length := by rw [h.lenA]; exact hlen
    have hbk : D.A[M.length].b = flR R := by rw [h.b M.length (by simp) hk]; simp
    obtain ⟨m, hm1, hm2, hm3⟩ := h.la M R rfl
    have hz := hok.zs _ (List.getElem_mem hk)
    have hle := zmore_le keep M.length D.A[M.length] hz.fl
    obtain ⟨m', q1, q2, q3, q4⟩ := whole_of R (D.A[M.length].fl + zmore keep M.length D.A[M.length])
    have hmm : m ≤ m' := q4 m hm1 (by rw [hm2 hk]; omega)
    have hold : ∀ k (h1 : k < M.length) (h2 : k < (zcrs D keep).A.length), (zcrs D keep).A[k].b = flR M[k] := fun k h1 h2 => by
      have h2' : k < D.A.length := by omega
      rw [hget k h2 h2', h.fl k h2' (by simp; omega), List.take_of_length_le (by omega), h.b k (by simp; omega) h2', List.getElem_append_left h1]
    have hR300 : ∀ t ∈ R, t.length ≤ 300 := h.sm R (by simp)
    refine ⟨M ++ [R.take m'], M.flatten.length + m', by simp, rfl, h.dn, ?_, by omega, ?_, fun k h1 h2 => ?_, fun k h1 h2 h3 => ?_⟩
    · rw [List.flatten_append, List.flatten_append]
      simp only [List.flatten_cons, List.flatten_nil, List.append_nil]
      rw [List.take_append, List.take_of_length_le (Nat.le_add_right _ _), Nat.add_sub_cancel_left]
    · rw [List.flatten_append, List.length_append]
      simp only [List.flatten_cons, List.flatten_nil, List.append_nil]
      omega
    · by_cases e : k < M.length
      · rw [hold k e h2, List.getElem_append_left e]
        exact scan_full (h.sm _ (by simp))
      · have : k = M.length := by simp at h1; omega
        subst this
        rw [hget _ h2 hk, hbk]
        have e2 : (M ++ [R.take m'])[M.length]'h1 = R.take m' := by simp
        rw [e2]
        exact ScanIs.cut (fun t ht => by have := hR300 t ht; omega) q1 q2 q3 (by rw [← hbk]; exact hle)
    · have e : k < M.length := by simp at h3; omega
      rw [hold k e h2, List.getElem_append_left e]
end Go.Proofs.YtkflingpogokcaaDoor
