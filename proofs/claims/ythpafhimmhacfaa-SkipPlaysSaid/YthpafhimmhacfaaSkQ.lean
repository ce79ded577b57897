/- Plain laws of puts and of what stands beside a key. -/
import Derived.Test.YthpafhimmhacfaaSkG
namespace Go.Proofs.Ythpafhimmhacfaa
open Go.RowKit
set_option linter.unusedVariables false
set_option linter.unusedSimpArgs false
set_option linter.unusedSectionVars false

section
variable {κ ν : Type} [DecidableEq κ] {lt : κ → κ → Bool}
theorem keys_modify (L : List (E3 κ ν)) (c : Nat) (y : ν) : (L.modify c (setE y)).map E3.k = L.map E3.k := by
  refine List.ext_getElem (by simp) fun i h1 h2 => ?_
  simp only [List.getElem_map, List.getElem_modify]
  split <;> rfl
theorem putE_has {L : List (E3 κ ν)} {k : κ} (h : hasE L (cutE lt k L) k = true) (y : ν) (ht : Nat) : putE lt L k y ht = L.modify (cutE lt k L) (setE y) := if_pos h
theorem putE_no {L : List (E3 κ ν)} {k : κ} (h : hasE L (cutE lt k L) k = false) (y : ν) (ht : Nat) : putE lt L k y ht = L.take (cutE lt k L) ++ ⟨k, y, ht⟩ :: L.drop (cutE lt k L) := if_neg (by rw [h]; simp)
theorem putE_len (L : List (E3 κ ν)) (k : κ) (y : ν) (ht : Nat) : (putE lt L k y ht).length = if hasE L (cutE lt k L) k = true then L.length else L.length + 1 := by
  have hc := cutE_le lt k L
  cases h : hasE L (cutE lt k L) k with
  | true => rw [putE_has h, if_pos rfl, List.length_modify]
  | false =>
    rw [putE_no h, if_neg (by simp)]
    simp only [List.length_append, List.length_cons, List.length_take, List.length_drop]; omega
theorem putE_len_le (L : List (E3 κ ν)) (k : κ) (y : ν) (ht : Nat) : (putE lt L k y ht).length ≤ L.length + 1 := by
  rw [putE_len]; split <;> omega
theorem putE_keys (L : List (E3 κ ν)) (k : κ) (y : ν) (ht : Nat) (x : κ) : x ∈ (putE lt L k y ht).map E3.k ↔ x = k ∨ x ∈ L.map E3.k := by
  cases h : hasE L (cutE lt k L) k with
  | true =>
    rw [putE_has h, keys_modify]
    obtain ⟨hc, hk⟩ := hasE_true.1 h
    refine ⟨.inr, fun hx => hx.elim (fun e => ?_) id⟩
    rw [e, ← hk]
    exact List.mem_map.2 ⟨_, List.getElem_mem hc, rfl⟩
  | false =>
    rw [putE_no h, List.map_append, List.mem_append, List.map_cons, List.mem_cons]
    have e : L.map E3.k = (L.take (cutE lt k L)).map E3.k ++ (L.drop (cutE lt k L)).map E3.k := by rw [← List.map_append, List.take_append_drop]
    rw [e, List.mem_append]
    simp only
    constructor
    · rintro (h | h | h)
      · exact .inr (.inl h)
      · exact .inl h
      · exact .inr (.inr h)
    · rintro (h | h | h)
      · exact .inr (.inl h)
      · exact .inl h
      · exact .inr (.inr h)
theorem putE_hts {L : List (E3 κ ν)} (hts : ∀ x ∈ L, 1 ≤ x.h ∧ x.h ≤ 12) (k : κ) (y : ν) (ht : Nat) (h1 : 1 ≤ ht) (h2 : ht ≤ 12) : ∀ x ∈ putE lt L k y ht, 1 ≤ x.h ∧ x.h ≤ 12 := by
  cases h : hasE L (cutE lt k L) k with
  | true =>
    rw [putE_has h]
    intro x hx
    obtain ⟨i, hi, rfl⟩ := List.getElem_of_mem hx
    have hi' : i < L.length := by simpa using hi
    have := hts _ (List.getElem_mem hi')
    rw [List.getElem_modify]
    split <;> exact this
  | false =>
    rw [putE_no h]
    intro x hx
    rcases List.mem_append.1 hx with hx | hx
    · exact hts x (List.mem_of_mem_take hx)
    · rcases List.mem_cons.1 hx with rfl | hx
      · exact ⟨h1, h2⟩
      · exact hts x (List.mem_of_mem_drop hx)
theorem cutE_eq (k : κ) : ∀ (L : List (E3 κ ν)) (c : Nat), c ≤ L.length → (∀ j (hj : j < L.length), j < c → lt L[j].k k = true) → (∀ j (hj : j < L.length), c ≤ j → lt L[j].k k = false) → cutE lt k L = c
  | [], c, hc, _, _ => by simp at hc; subst hc; rfl
  | e :: R, 0, _, _, h2 => by
    have h := h2 0 (by simp) (Nat.le_refl _)
    simp only [List.getElem_cons_zero] at h
    unfold cutE; rw [if_neg (by rw [h]; simp)]
  | e :: R, c + 1, hc, h1, h2 => by
    have h := h1 0 (by simp) (by omega)
    simp only [List.getElem_cons_zero] at h
    unfold cutE; rw [if_pos h]
    rw [cutE_eq k R c (by simpa using hc) (fun j hj hjc => h1 (j + 1) (by simpa using hj) (by omega)) (fun j hj hjc => h2 (j + 1) (by simpa using hj) (by omega))]
theorem cutE_at (o : KOrd lt) {L : List (E3 κ ν)} (hr : ERise lt L) (i : Nat) (hi : i < L.length) : cutE lt L[i].k L = i := by
  refine cutE_eq _ L i (by omega) (fun j hj hji => erise_at hr j i hj hi hji) (fun j hj hij => ?_)
  rcases Nat.eq_or_lt_of_le hij with rfl | hlt
  · exact o.irrefl _
  · cases h : lt L[j].k L[i].k with
    | false => rfl
    | true =>
      have h1 := erise_at hr i j hi hj hlt
      have h2 := o.trans _ _ _ h1 h
      rw [o.irrefl] at h2; cases h2
theorem hasE_at (o : KOrd lt) {L : List (E3 κ ν)} (hr : ERise lt L) (i : Nat) (hi : i < L.length) : hasE L (cutE lt L[i].k L) L[i].k = true :=
  hasE_true.2 (by rw [cutE_at o hr i hi]; exact ⟨hi, rfl⟩)
theorem hasE_mem (o : KOrd lt) {L : List (E3 κ ν)} (hr : ERise lt L) (k : κ) : hasE L (cutE lt k L) k = true ↔ k ∈ L.map E3.k := by
  constructor
  · intro h
    obtain ⟨hc, hk⟩ := hasE_true.1 h
    rw [← hk]; exact List.mem_map.2 ⟨_, List.getElem_mem hc, rfl⟩
  · intro h
    obtain ⟨e, he, rfl⟩ := List.mem_map.1 h
    obtain ⟨i, hi, rfl⟩ := List.getElem_of_mem he
    exact hasE_at o hr i hi
end
theorem tkE_at {L : List (E3 Int Int)} {i : Nat} (h : i < L.length) : tkE L i = L[i].k := dif_pos h
theorem tvE_at {L : List (E3 Int Int)} {i : Nat} (h : i < L.length) : tvE L i = L[i].v := dif_pos h
theorem tbE_true {L : List (E3 Int Int)} {i : Nat} : tbE L i = true ↔ i < L.length := decide_eq_true_iff
theorem tbE_false {L : List (E3 Int Int)} {i : Nat} : tbE L i = false ↔ L.length ≤ i := by unfold tbE; rw [decide_eq_false_iff_not]; omega
/-- what stands beside a key that is not there -/
structure Btw (K : List Int) (k : Int) (low high : Int) (a b : Bool) : Prop where
  ne : ∀ x ∈ K, x ≠ k
  a1 : a = true → low < k
  b1 : b = true → k < high
  a2 : ∀ x ∈ K, a = true → x < k → x ≤ low
  b2 : ∀ x ∈ K, b = true → k < x → high ≤ x
  a3 : ∀ x ∈ K, a = false → k < x
  b3 : ∀ x ∈ K, b = false → x < k
theorem btw {L : List (E3 Int Int)} (hr : ERise ilt L) (K : List Int) (hK : ∀ x ∈ K, x ∈ L.map E3.k) (k : Int) (hf : hI L k = false) :
    Btw K k (tkE L (floorE L k)) (tkE L (ceilE L k)) (tbE L (floorE L k)) (tbE L (ceilE L k)) := by
  have hc := cutE_le ilt k L
  have hlo : ∀ j (hj : j < L.length), j < cutE ilt k L → L[j].k < k := fun j hj h => of_decide_eq_true (cutE_below (lt := ilt) k L j hj h)
  have hhi : ∀ j (hj : j < L.length), cutE ilt k L ≤ j → k < L[j].k := fun j hj h => by
    have h1 : ¬ L[j].k < k := of_decide_eq_false (cutE_above ilt_ord k L hr j hj h)
    have h2 : L[j].k ≠ k := fun e => by
      have h3 := (hasE_mem ilt_ord hr k).2 (List.mem_map.2 ⟨_, List.getElem_mem hj, e⟩)
      rw [show hasE L (cutE ilt k L) k = false from hf] at h3; cases h3
    omega
  have hri : ∀ i j (hi : i < L.length) (hj : j < L.length), i ≤ j → L[i].k ≤ L[j].k := fun i j hi hj hij => by
    rcases Nat.eq_or_lt_of_le hij with rfl | h
    · exact Int.le_refl _
    · exact Int.le_of_lt (of_decide_eq_true (erise_at hr i j hi hj h))
  have hfl : floorE L k = prevE L k := by unfold floorE; rw [if_neg (by rw [hf]; simp)]
  have hce : ceilE L k = cutE ilt k L := rfl
  have hget : ∀ x ∈ K, ∃ j, ∃ hj : j < L.length, L[j].k = x := fun x hx => by
    obtain ⟨e, he, rfl⟩ := List.mem_map.1 (hK x hx)
    obtain ⟨i, hi, rfl⟩ := List.getElem_of_mem he
    exact ⟨i, hi, rfl⟩
  rw [hfl, hce]
  have hpv : tbE L (prevE L k) = true → 0 < cutE ilt k L ∧ prevE L k = cutE ilt k L - 1 := fun h => by
    rw [tbE_true] at h
    unfold prevE cI at h ⊢
    split at h
    · omega
    · rename_i h0; rw [if_neg h0]; exact ⟨by omega, rfl⟩
  have hpn : tbE L (prevE L k) = false → cutE ilt k L = 0 := fun h => by
    rw [tbE_false] at h
    unfold prevE cI at h
    split at h
    · assumption
    · omega
  refine ⟨?_, ?_, ?_, ?_, ?_, ?_, ?_⟩
  · intro x hx e
    obtain ⟨j, hj, rfl⟩ := hget x hx
    have h3 := (hasE_mem ilt_ord hr k).2 (List.mem_map.2 ⟨_, List.getElem_mem hj, e⟩)
    rw [show hasE L (cutE ilt k L) k = false from hf] at h3; cases h3
  · intro h
    obtain ⟨h0, e⟩ := hpv h
    rw [e, tkE_at (by omega)]; exact hlo _ _ (by omega)
  · intro h
    rw [tbE_true] at h
    rw [tkE_at h]; exact hhi _ _ (Nat.le_refl _)
  · intro x hx h hxk
    obtain ⟨j, hj, rfl⟩ := hget x hx
    obtain ⟨h0, e⟩ := hpv h
    rw [e, tkE_at (by omega)]
    refine hri _ _ _ _ ?_
    rcases Nat.lt_or_ge j (cutE ilt k L) with h | h
    · omega
    · have := hhi j hj h; omega
  · intro x hx h hxk
    obtain ⟨j, hj, rfl⟩ := hget x hx
    rw [tbE_true] at h
    rw [tkE_at h]
    refine hri _ _ _ _ ?_
    rcases Nat.lt_or_ge j (cutE ilt k L) with h | h
    · have := hlo j hj h; omega
    · omega
  · intro x hx h
    obtain ⟨j, hj, rfl⟩ := hget x hx
    exact hhi j hj (by rw [hpn h]; omega)
  · intro x hx h
    obtain ⟨j, hj, rfl⟩ := hget x hx
    rw [tbE_false] at h
    exact hlo j hj (by omega)
/-- the one behind the one below -/
theorem btw_next {L : List (E3 Int Int)} (hr : ERise ilt L) (k : Int) (hf : hI L k = false) (ha : tbE L (floorE L k) = true) :
    tbE L (nextE L (tkE L (floorE L k))) = tbE L (ceilE L k) ∧ tkE L (nextE L (tkE L (floorE L k))) = tkE L (ceilE L k) := by
  have hc := cutE_le ilt k L
  have hfl : floorE L k = prevE L k := by unfold floorE; rw [if_neg (by rw [hf]; simp)]
  have hpv : 0 < cutE ilt k L ∧ floorE L k = cutE ilt k L - 1 := by
    rw [tbE_true, hfl] at ha
    rw [hfl]
    unfold prevE cI at ha ⊢
    split at ha
    · omega
    · rename_i h0; rw [if_neg h0]; exact ⟨by omega, rfl⟩
  obtain ⟨h0, e⟩ := hpv
  have hx : nextE L (tkE L (floorE L k)) = ceilE L k := by
    have hlt : cutE ilt k L - 1 < L.length := by omega
    rw [e, tkE_at hlt]
    unfold nextE hI cI
    rw [hasE_at ilt_ord hr _ hlt, if_pos rfl, cutE_at ilt_ord hr _ hlt]
    show _ = cutE ilt k L
    omega
  rw [hx]; exact ⟨rfl, rfl⟩
/-- what is told of a key that is there -/
theorem has_tells {L : List (E3 Int Int)} {k : Int} (h : hI L k = true) : ∃ hc : cI L k < L.length, L[cI L k].k = k ∧ getE L k = cI L k ∧ floorE L k = cI L k ∧ ceilE L k = cI L k := by
  obtain ⟨hc, hk⟩ := hasE_true.1 h
  exact ⟨hc, hk, if_pos h, if_pos h, rfl⟩
theorem tb_get (L : List (E3 Int Int)) (k : Int) : tbE L (getE L k) = hI L k := by
  cases h : hI L k with
  | true => obtain ⟨hc, _, e, _⟩ := has_tells h; rw [e]; exact tbE_true.2 hc
  | false => unfold getE; rw [if_neg (by rw [h]; simp)]; exact tbE_false.2 (Nat.le_refl _)
end Go.Proofs.Ythpafhimmhacfaa
