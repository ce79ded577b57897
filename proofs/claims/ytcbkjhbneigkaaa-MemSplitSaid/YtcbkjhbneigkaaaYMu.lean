/- Chapter 11: the users' keys that have a value; what is got, by what is there: plain laws. -/
import Derived.Test.YtcbkjhbneigkaaaYMp
namespace Go.Proofs.Ytcbkjhbneigkaaa
open Go.RowKit
set_option linter.unusedVariables false
set_option linter.unusedSimpArgs false

def uAt (M : List ME) (i : Nat) : ByteArray := if h : i < M.length then M[i].u else ByteArray.empty
theorem uAt_in {M : List ME} {i : Nat} (h : i < M.length) : uAt M i = M[i].u := dif_pos h
/-- is entry i told at a number, with a value? -/
def mtold (at' : Int) (M : List ME) (i : Nat) : Bool := if h : i < M.length then decide (mget M[i].u at' M = i) && decide (M[i].k = 1) else false
def musersN (at' : Int) (M : List ME) : Nat → List ByteArray
  | 0 => []
  | n + 1 => if mtold at' M n = true then musersN at' M n ++ [uAt M n] else musersN at' M n
def musers (at' : Int) (M : List ME) : List ByteArray := musersN at' M M.length
theorem musersN_le (at' : Int) (M : List ME) : ∀ n, (musersN at' M n).length ≤ n
  | 0 => Nat.le_refl _
  | n + 1 => by
    have := musersN_le at' M n
    unfold musersN
    split
    · rw [List.length_append, List.length_singleton]; omega
    · omega
theorem musersN_mem {at' : Int} {M : List ME} {x : ByteArray} : ∀ n, x ∈ musersN at' M n ↔ ∃ i, i < n ∧ mtold at' M i = true ∧ x = uAt M i
  | 0 => by simp [musersN]
  | n + 1 => by
    have ih := musersN_mem (at' := at') (M := M) (x := x) n
    unfold musersN
    by_cases h : mtold at' M n = true
    · rw [if_pos h, List.mem_append, ih, List.mem_singleton]
      constructor
      · rintro (⟨i, h1, h2, h3⟩ | h2)
        · exact ⟨i, by omega, h2, h3⟩
        · exact ⟨n, by omega, h, h2⟩
      · rintro ⟨i, h1, h2, h3⟩
        rcases Nat.lt_or_ge i n with h4 | h4
        · exact .inl ⟨i, h4, h2, h3⟩
        · have : i = n := by omega
          subst this; exact .inr h3
    · rw [if_neg h, ih]
      constructor
      · rintro ⟨i, h1, h2, h3⟩; exact ⟨i, by omega, h2, h3⟩
      · rintro ⟨i, h1, h2, h3⟩
        rcases Nat.lt_or_ge i n with h4 | h4
        · exact ⟨i, h4, h2, h3⟩
        · have : i = n := by omega
          subst this; exact absurd h2 h
/-- the last one that is seen -/
def mlast (at' : Int) (M : List ME) : Nat → ByteArray
  | 0 => ByteArray.empty
  | n + 1 => if h : n < M.length then (if M[n].s ≤ at' then M[n].u else mlast at' M n) else mlast at' M n
theorem mlast_is (at' : Int) (M : List ME) : ∀ n, n ≤ M.length → (mlast at' M n = ByteArray.empty ∧ ∀ j (hj : j < M.length), j < n → ¬ M[j].s ≤ at') ∨
    ∃ j, ∃ hj : j < M.length, j < n ∧ M[j].s ≤ at' ∧ mlast at' M n = M[j].u ∧ ∀ i (hi : i < M.length), j < i → i < n → ¬ M[i].s ≤ at'
  | 0, _ => .inl ⟨rfl, fun j _ h => absurd h (Nat.not_lt_zero _)⟩
  | n + 1, hn => by
    have hlt : n < M.length := by omega
    by_cases h : M[n].s ≤ at'
    · refine .inr ⟨n, hlt, by omega, h, ?_, fun i _ h1 h2 => by omega⟩
      rw [mlast, dif_pos hlt, if_pos h]
    · rw [mlast, dif_pos hlt, if_neg h]
      rcases mlast_is at' M n (by omega) with ⟨h1, h2⟩ | ⟨j, hj, h1, h2, h3, h4⟩
      · refine .inl ⟨h1, fun j hj h3 => ?_⟩
        rcases Nat.lt_or_ge j n with h4 | h4
        · exact h2 j hj h4
        · have : j = n := by omega
          subst this; exact h
      · refine .inr ⟨j, hj, by omega, h2, h3, fun i hi h5 h6 => ?_⟩
        rcases Nat.lt_or_ge i n with h7 | h7
        · exact h4 i hi h5 h7
        · have : i = n := by omega
          subst this; exact h
theorem user_le {M : List ME} (h : MRise M) {i j : Nat} (hi : i < M.length) (hj : j < M.length) (hij : i ≤ j) : Lib.compareBytes M[i].u.data.toList M[j].u.data.toList ≤ 0 := by
  rcases Nat.lt_or_ge i j with h1 | h1
  · have h2 := mrise_at h i j hi hj h1
    unfold mcmp kcmp or3 at h2
    by_cases e : Lib.compareBytes M[i].u.data.toList M[j].u.data.toList = 0
    · omega
    · rw [if_pos e] at h2; omega
  · have : i = j := by omega
    subst this
    rw [(bo_eq _ _).2 rfl]; exact Int.le_refl _
theorem user_mid {M : List ME} (h : MRise M) {i m j : Nat} (hi : i < M.length) (hm : m < M.length) (hj : j < M.length) (h1 : i ≤ m) (h2 : m ≤ j) (e : M[i].u = M[j].u) : M[m].u = M[j].u := by
  have a := user_le h hi hm h1
  have b := user_le h hm hj h2
  rw [e] at a
  have c := bo_anti M[m].u.data.toList M[j].u.data.toList
  exact bo_ext ((bo_eq _ _).1 (by omega))
theorem sees_told {M : List ME} {last : Int} (h : MInv M last) {at' : Int} {n : Nat} (hn : n < M.length) (hs : M[n].s ≤ at') : M[n].u = mlast at' M n ↔ mget M[n].u at' M ≠ n := by
  constructor
  · intro e hm
    rcases mlast_is at' M n (by omega) with ⟨h1, _⟩ | ⟨j, hj, h1, h2, h3, _⟩
    · have hf := right_facts (h.ok _ (List.getElem_mem hn)).1
      rw [e, h1] at hf
      have : ByteArray.empty.size = 0 := rfl
      omega
    · have := mget_before M[n].u at' M j hj (by omega)
      rw [mhit_iff.2 ⟨by rw [← h3, e], h2⟩] at this; cases this
  · intro hne
    apply Classical.byContradiction
    intro hu
    refine hne (mget_is (fun j hj hjn => mhit_not ?_) (by omega) fun _ => mhit_iff.2 ⟨rfl, hs⟩)
    rintro ⟨e1, e2⟩
    rcases mlast_is at' M n (by omega) with ⟨_, h2⟩ | ⟨i, hi, h1, h2, h3, h4⟩
    · exact h2 j hj hjn e2
    · have hji : j ≤ i := by
        rcases Nat.lt_or_ge i j with h5 | h5
        · exact absurd e2 (h4 j hj h5 hjn)
        · exact h5
      exact hu (by rw [h3]; exact (user_mid h.rise hj hi hn hji (by omega) e1).symm)
theorem mtold_hit {M : List ME} {at' : Int} {n : Nat} (hn : n < M.length) (h : mtold at' M n = true) : mget M[n].u at' M = n ∧ M[n].k = 1 ∧ M[n].s ≤ at' := by
  unfold mtold at h
  rw [dif_pos hn, Bool.and_eq_true, decide_eq_true_eq, decide_eq_true_eq] at h
  refine ⟨h.1, h.2, ?_⟩
  have h1 := mget_hit M[n].u at' M (by omega)
  simp only [h.1] at h1
  exact (mhit_iff.1 h1).2
theorem mtold_eq {M : List ME} {at' : Int} {n : Nat} (hn : n < M.length) : mtold at' M n = (decide (mget M[n].u at' M = n) && decide (M[n].k = 1)) := by
  unfold mtold; rw [dif_pos hn]
/-- a round of the table's Users -/
theorem users_unseen {M : List ME} {at' : Int} {n : Nat} (hn : n < M.length) (hs : ¬ M[n].s ≤ at') : musersN at' M (n + 1) = musersN at' M n ∧ mlast at' M (n + 1) = mlast at' M n := by
  constructor
  · rw [musersN, if_neg fun h => hs (mtold_hit hn h).2.2]
  · rw [mlast, dif_pos hn, if_neg hs]
theorem users_again {M : List ME} {last : Int} (h : MInv M last) {at' : Int} {n : Nat} (hn : n < M.length) (hs : M[n].s ≤ at') (he : M[n].u = mlast at' M n) : musersN at' M (n + 1) = musersN at' M n ∧ mlast at' M (n + 1) = mlast at' M n := by
  constructor
  · rw [musersN, if_neg fun h2 => (sees_told h hn hs).1 he (mtold_hit hn h2).1]
  · rw [mlast, dif_pos hn, if_pos hs]; exact he
theorem users_new {M : List ME} {last : Int} (h : MInv M last) {at' : Int} {n : Nat} (hn : n < M.length) (hs : M[n].s ≤ at') (he : M[n].u ≠ mlast at' M n) : mlast at' M (n + 1) = M[n].u ∧ (M[n].k = 1 → musersN at' M (n + 1) = musersN at' M n ++ [M[n].u]) ∧ (M[n].k ≠ 1 → musersN at' M (n + 1) = musersN at' M n) := by
  have hm : mget M[n].u at' M = n := by
    apply Classical.byContradiction
    intro hne
    exact he ((sees_told h hn hs).2 hne)
  refine ⟨by rw [mlast, dif_pos hn, if_pos hs], fun hk => ?_, fun hk => ?_⟩
  · rw [musersN, if_pos (by rw [mtold_eq hn, decide_eq_true hm, decide_eq_true hk]; rfl), uAt_in hn]
  · rw [musersN, if_neg (by rw [mtold_eq hn, decide_eq_false hk, Bool.and_false]; simp)]
/-- they rise -/
theorem musersN_rise {M : List ME} {last : Int} (h : MInv M last) (at' : Int) : ∀ n, n ≤ M.length → ∀ i j (hi : i < (musersN at' M n).length) (hj : j < (musersN at' M n).length), i < j → Lib.compareBytes ((musersN at' M n)[i]).data.toList ((musersN at' M n)[j]).data.toList < 0
  | 0, _ => fun i j hi hj _ => absurd hi (by simp [musersN])
  | n + 1, hn => by
    have ih := musersN_rise h at' n (by omega)
    by_cases hb : mtold at' M n = true
    · have e : musersN at' M (n + 1) = musersN at' M n ++ [uAt M n] := by rw [musersN, if_pos hb]
      rw [e]
      intro i j hi hj hij
      rw [List.length_append, List.length_singleton] at hi hj
      rw [List.getElem_append_left (by omega : i < (musersN at' M n).length)]
      rcases Nat.lt_or_ge j (musersN at' M n).length with h1 | h1
      · rw [List.getElem_append_left h1]; exact ih i j (by omega) h1 hij
      · rw [List.getElem_append_right h1]
        simp only [List.getElem_singleton]
        have hi' : i < (musersN at' M n).length := by omega
        obtain ⟨m, hm1, hm2, hm3⟩ := (musersN_mem (at' := at') (M := M) n).1 (List.getElem_mem hi')
        have hnl : n < M.length := by omega
        have hml : m < M.length := by omega
        rw [hm3, uAt_in hml, uAt_in hnl]
        have h2 := user_le h.rise hml hnl (by omega)
        have h3 : Lib.compareBytes M[m].u.data.toList M[n].u.data.toList ≠ 0 := fun e0 => by
          have e1 := bo_ext ((bo_eq _ _).1 e0)
          have e2 := (mtold_hit hnl hb).1
          have e3 := (mtold_hit hml hm2).1
          rw [e1] at e3
          omega
        omega
    · have e : musersN at' M (n + 1) = musersN at' M n := by rw [musersN, if_neg hb]
      rw [e]; exact ih
theorem musers_has {M : List ME} {at' : Int} {u : ByteArray} : u ∈ musers at' M ↔ ∃ h : mget u at' M < M.length, M[mget u at' M].k = 1 := by
  unfold musers
  rw [musersN_mem]
  constructor
  · rintro ⟨i, hi, h1, h2⟩
    obtain ⟨e1, e2, _⟩ := mtold_hit hi h1
    rw [uAt_in hi] at h2
    subst h2
    simp only [e1]
    exact ⟨hi, e2⟩
  · rintro ⟨h, hk⟩
    have hh := mhit_iff.1 (mget_hit u at' M h)
    refine ⟨mget u at' M, h, ?_, ?_⟩
    · rw [mtold_eq h, hh.1, decide_eq_true rfl, decide_eq_true hk]; rfl
    · rw [uAt_in h, hh.1]
/-- what is got, by what is there -/
theorem mget_some {M : List ME} (h : MRise M) {u : ByteArray} {at' : Int} {e : ME} (he : e ∈ M) (hh : mhit u at' e = true) (hall : ∀ f ∈ M, mhit u at' f = true → f = e ∨ mcmp e f < 0) : ∃ hc : mget u at' M < M.length, M[mget u at' M] = e := by
  have hc : mget u at' M < M.length := by
    apply Classical.byContradiction
    intro hge
    obtain ⟨j, hj, rfl⟩ := List.getElem_of_mem he
    rw [mget_before u at' M j hj (by omega)] at hh; cases hh
  refine ⟨hc, ?_⟩
  rcases hall _ (List.getElem_mem hc) (mget_hit u at' M hc) with h1 | h1
  · exact h1
  · exfalso
    obtain ⟨j, hj, rfl⟩ := List.getElem_of_mem he
    rcases Nat.lt_trichotomy j (mget u at' M) with h2 | h2 | h2
    · rw [mget_before u at' M j hj h2] at hh; cases hh
    · have h3 := mcmp_anti M[j] M[mget u at' M]
      simp only [← h2] at h1 h3
      omega
    · have h3 := mrise_at h _ _ hc hj h2
      have h4 := mcmp_anti M[j] M[mget u at' M]
      omega
theorem mget_none {M : List ME} {u : ByteArray} {at' : Int} (hall : ∀ f ∈ M, mhit u at' f = false) : mget u at' M = M.length :=
  mget_is (fun j hj _ => hall _ (List.getElem_mem hj)) (Nat.le_refl _) fun h => absurd h (Nat.lt_irrefl _)
theorem mget_best {M : List ME} (h : MRise M) {u : ByteArray} {at' : Int} (hc : mget u at' M < M.length) : ∀ f ∈ M, mhit u at' f = true → f = M[mget u at' M] ∨ mcmp M[mget u at' M] f < 0 := by
  intro f hf hh
  obtain ⟨j, hj, rfl⟩ := List.getElem_of_mem hf
  rcases Nat.lt_trichotomy j (mget u at' M) with h2 | h2 | h2
  · rw [mget_before u at' M j hj h2] at hh; cases hh
  · left; simp only [← h2]
  · exact .inr (mrise_at h _ _ hc hj h2)
theorem newer_first {e f : ME} (hu : e.u = f.u) (hs : f.s < e.s) : mcmp e f < 0 := by
  unfold mcmp kcmp or3 icmp
  rw [hu, (bo_eq _ _).2 rfl, if_neg (by omega)]
  rw [if_pos (show f.s < e.s from hs)]
  simp
end Go.Proofs.Ytcbkjhbneigkaaa
