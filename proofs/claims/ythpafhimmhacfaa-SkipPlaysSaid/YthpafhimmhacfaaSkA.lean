/- A sorted list as its entries: plain laws. -/
import Derived.Test.YthpafhimmhacfaaSkP9
import Derived.Test.YthpafhimmhacfaaSkF
import Derived.Test.YthpafhimmhacfaaSkK
import Derived.Test.YthpafhimmhacfaaSkL
namespace Go.Proofs.Ythpafhimmhacfaa
open Go.RowKit
set_option linter.unusedVariables false
set_option linter.unusedSimpArgs false

/-- an entry: key, value, height -/
structure E3 (κ ν : Type) where
  k : κ
  v : ν
  h : Nat
section
variable {κ ν : Type}
def ERise (lt : κ → κ → Bool) : List (E3 κ ν) → Prop
  | [] => True
  | e :: R => (∀ f ∈ R, lt e.k f.k = true) ∧ ERise lt R
def cutE (lt : κ → κ → Bool) (k : κ) : List (E3 κ ν) → Nat
  | [] => 0
  | e :: R => if lt e.k k = true then cutE lt k R + 1 else 0
theorem cutE_le (lt : κ → κ → Bool) (k : κ) : ∀ L : List (E3 κ ν), cutE lt k L ≤ L.length
  | [] => Nat.le_refl _
  | e :: R => by have := cutE_le lt k R; unfold cutE; split <;> simp only [List.length_cons] <;> omega
theorem cutE_below {lt : κ → κ → Bool} (k : κ) : ∀ (L : List (E3 κ ν)) (j : Nat) (hj : j < L.length), j < cutE lt k L → lt L[j].k k = true
  | [], j, hj, _ => absurd hj (Nat.not_lt_zero _)
  | e :: R, j, hj, hc => by
    unfold cutE at hc
    by_cases h : lt e.k k = true
    · rw [if_pos h] at hc
      cases j with
      | zero => exact h
      | succ j => exact cutE_below k R j (by simpa using hj) (by omega)
    · rw [if_neg h] at hc; omega
theorem cutE_above {lt : κ → κ → Bool} (o : KOrd lt) (k : κ) : ∀ (L : List (E3 κ ν)), ERise lt L → ∀ (j : Nat) (hj : j < L.length), cutE lt k L ≤ j → lt L[j].k k = false
  | [], _, j, hj, _ => absurd hj (Nat.not_lt_zero _)
  | e :: R, hs, j, hj, hc => by
    unfold cutE at hc
    by_cases h : lt e.k k = true
    · rw [if_pos h] at hc
      cases j with
      | zero => omega
      | succ j => exact cutE_above o k R hs.2 j (by simpa using hj) (by omega)
    · have hf : lt e.k k = false := by simpa using h
      cases j with
      | zero => exact hf
      | succ j =>
        have hj2 : j < R.length := by simpa using hj
        have h1 := hs.1 _ (List.getElem_mem hj2)
        show lt (R[j]'hj2).k k = false
        cases h2 : lt (R[j]'hj2).k k with
        | false => rfl
        | true => have := o.trans _ _ _ h1 h2; rw [hf] at this; cases this
theorem erise_at {lt : κ → κ → Bool} : ∀ {L : List (E3 κ ν)}, ERise lt L → ∀ i j (hi : i < L.length) (hj : j < L.length), i < j → lt L[i].k L[j].k = true
  | [], _, i, _, hi, _, _ => absurd hi (Nat.not_lt_zero _)
  | e :: R, hs, 0, j + 1, _, hj, _ => hs.1 _ (List.getElem_mem (by simpa using hj))
  | e :: R, hs, i + 1, j + 1, hi, hj, h => erise_at hs.2 i j (by simpa using hi) (by simpa using hj) (by omega)
theorem erise_of {lt : κ → κ → Bool} : ∀ {L : List (E3 κ ν)}, (∀ i j (hi : i < L.length) (hj : j < L.length), i < j → lt L[i].k L[j].k = true) → ERise lt L
  | [], _ => trivial
  | e :: R, h => ⟨fun f hf => by
      obtain ⟨j, hj, rfl⟩ := List.getElem_of_mem hf
      exact h 0 (j + 1) (by simp) (by simpa using hj) (by omega), erise_of fun i j hi hj hij => h (i + 1) (j + 1) (by simpa using hi) (by simpa using hj) (by omega)⟩
/-- put -/
def hasE [DecidableEq κ] (L : List (E3 κ ν)) (c : Nat) (k : κ) : Bool := if h : c < L.length then decide (L[c].k = k) else false
theorem hasE_true [DecidableEq κ] {L : List (E3 κ ν)} {c : Nat} {k : κ} : hasE L c k = true ↔ ∃ h : c < L.length, L[c].k = k := by
  unfold hasE
  by_cases h : c < L.length
  · rw [dif_pos h, decide_eq_true_iff]; exact ⟨fun e => ⟨h, e⟩, fun ⟨_, e⟩ => e⟩
  · rw [dif_neg h]; exact ⟨fun e => Bool.noConfusion e, fun ⟨e, _⟩ => absurd e h⟩
theorem hasE_false [DecidableEq κ] {L : List (E3 κ ν)} {c : Nat} {k : κ} (hf : hasE L c k = false) : ∀ h : c < L.length, L[c].k ≠ k := fun h e => by
  rw [hasE_true.2 ⟨h, e⟩] at hf; cases hf
def setE (y : ν) (e : E3 κ ν) : E3 κ ν := { e with v := y }
def putE [DecidableEq κ] (lt : κ → κ → Bool) (L : List (E3 κ ν)) (k : κ) (y : ν) (h : Nat) : List (E3 κ ν) :=
  if hasE L (cutE lt k L) k = true then L.modify (cutE lt k L) (setE y) else L.take (cutE lt k L) ++ ⟨k, y, h⟩ :: L.drop (cutE lt k L)
theorem erise_append {lt : κ → κ → Bool} : ∀ {A R : List (E3 κ ν)}, ERise lt A → ERise lt R → (∀ a ∈ A, ∀ b ∈ R, lt a.k b.k = true) → ERise lt (A ++ R)
  | [], R, _, hR, _ => hR
  | a :: A, R, hA, hR, h => ⟨fun f hf => (List.mem_append.1 hf).elim (hA.1 f) (h a (List.mem_cons_self ..) f), erise_append hA.2 hR fun x hx => h x (List.mem_cons_of_mem _ hx)⟩
theorem putE_rise [DecidableEq κ] {lt : κ → κ → Bool} (o : KOrd lt) {L : List (E3 κ ν)} (hs : ERise lt L) (k : κ) (y : ν) (h : Nat) : ERise lt (putE lt L k y h) := by
  unfold putE
  have hc := cutE_le lt k L
  by_cases hb : hasE L (cutE lt k L) k = true
  · rw [if_pos hb]
    refine erise_of fun i j hi hj hij => ?_
    have hi' : i < L.length := by simpa using hi
    have hj' : j < L.length := by simpa using hj
    have := erise_at hs i j hi' hj' hij
    rw [List.getElem_modify, List.getElem_modify]
    split <;> split <;> exact this
  · rw [if_neg hb]
    have hb' : hasE L (cutE lt k L) k = false := by simpa using hb
    refine erise_append ?_ ⟨?_, ?_⟩ ?_
    · exact erise_of fun i j hi hj hij => by
        rw [List.length_take] at hi hj
        rw [List.getElem_take, List.getElem_take]
        exact erise_at hs i j (by omega) (by omega) hij
    · intro f hf
      obtain ⟨j, hj, rfl⟩ := List.getElem_of_mem hf
      rw [List.length_drop] at hj
      rw [List.getElem_drop]
      have h1 := cutE_above o k L hs (cutE lt k L + j) (by omega) (by omega)
      rcases o.tri k L[cutE lt k L + j].k with h2 | h2 | h2
      · exact h2
      · exfalso
        rcases Nat.eq_zero_or_pos j with rfl | hj0
        · exact hasE_false hb' (by omega) h2.symm
        · have h3 := erise_at hs (cutE lt k L) (cutE lt k L + j) (by omega) (by omega) (by omega)
          rw [← h2] at h3
          have h4 := cutE_above o k L hs (cutE lt k L) (by omega) (Nat.le_refl _)
          rw [h3] at h4; cases h4
      · rw [h1] at h2; cases h2
    · exact erise_of fun i j hi hj hij => by
        rw [List.length_drop] at hi hj
        rw [List.getElem_drop, List.getElem_drop]
        exact erise_at hs _ _ (by omega) (by omega) (by omega)
    · intro a ha b hb
      obtain ⟨i, hi, rfl⟩ := List.getElem_of_mem ha
      rw [List.length_take] at hi
      rw [List.getElem_take]
      have h1 := cutE_below (lt := lt) k L i (by omega) (by omega)
      rcases List.mem_cons.1 hb with rfl | hb
      · exact h1
      · obtain ⟨j, hj, rfl⟩ := List.getElem_of_mem hb
        rw [List.length_drop] at hj
        rw [List.getElem_drop]
        exact erise_at hs _ _ (by omega) (by omega) (by omega)
/-- the nodes tell these entries -/
def tri (ev : ν → Value) (x : E3 κ ν) : κ × Value × Nat := (x.k, ev x.v, x.h)
def triS (e : SE κ) : κ × Value × Nat := (e.key, e.val, e.ht)
structure IsSk (NT LT : TypeId) (ek : κ → Value) (ev : ν → Value) (lt : κ → κ → Bool) (z0 : κ) (zv : ν) (w : World) (B p : Nat) (F : Nat → Prop) (L : List (E3 κ ν)) : Prop where
  sk : ∃ v hd S, SK NT LT ek w B p v (hd :: S) ∧ S.map triS = L.map (tri ev) ∧ hd.key = z0 ∧ hd.val = ev zv ∧ F = Fp p v (hd :: S)
  rise : ERise lt L
  hts : ∀ x ∈ L, 1 ≤ x.h ∧ x.h ≤ 12
theorem tri_at {ev : ν → Value} {S : List (SE κ)} {L : List (E3 κ ν)} (h : S.map triS = L.map (tri ev)) : S.length = L.length ∧ ∀ j (hj : j < S.length) (hj' : j < L.length), S[j].key = L[j].k ∧ S[j].val = ev L[j].v ∧ S[j].ht = L[j].h := by
  have hl : S.length = L.length := by simpa using congrArg List.length h
  refine ⟨hl, fun j hj hj' => ?_⟩
  have h1 : (S.map triS)[j]? = (L.map (tri ev))[j]? := by rw [h]
  rw [List.getElem?_map, List.getElem?_map, List.getElem?_eq_getElem hj, List.getElem?_eq_getElem hj'] at h1
  simp only [Option.map_some, Option.some.injEq, triS, tri, Prod.mk.injEq] at h1
  exact h1
/-- all that a walk asks of the nodes -/
structure Good (lt : κ → κ → Bool) (ev : ν → Value) (z0 : κ) (zv : ν) (T : List (SE κ)) (L : List (E3 κ ν)) : Prop where
  len : T.length = L.length + 1
  rise : TRise lt T
  pos : ∀ j (hj : j < T.length), 0 < T[j].ht
  top : ∀ j (hj : j < T.length), T[j].ht ≤ 12
  cut : ∀ k, CutAt lt T k (cutE lt k L + 1)
  ent : ∀ j (hj : j < L.length) (hj' : j + 1 < T.length), T[j + 1].key = L[j].k ∧ T[j + 1].val = ev L[j].v ∧ T[j + 1].ht = L[j].h
  zero : ∀ h : 0 < T.length, T[0].key = z0 ∧ T[0].val = ev zv
theorem IsSk.good {NT LT : TypeId} {ek : κ → Value} {ev : ν → Value} {lt : κ → κ → Bool} (o : KOrd lt) {z0 : κ} {zv : ν} {w : World} {B p : Nat} {F : Nat → Prop} {L : List (E3 κ ν)} (h : IsSk NT LT ek ev lt z0 zv w B p F L) :
    ∃ v T, SK NT LT ek w B p v T ∧ Good lt ev z0 zv T L ∧ F = Fp p v T := by
  obtain ⟨v, hd, S, hS, hm, hz1, hz2, hF⟩ := h.sk
  obtain ⟨hl, hat⟩ := tri_at hm
  have hh : hd.ht = 12 := by
    obtain ⟨e, S', e1, _, e2⟩ := hS.head
    rw [List.cons.injEq] at e1
    rw [e1.1]; exact e2
  refine ⟨v, hd :: S, hS, ⟨by rw [List.length_cons, hl], ?_, ?_, ?_, ?_, ?_, fun _ => ⟨hz1, hz2⟩⟩, hF⟩
  · intro i j hi hj h0 hij
    obtain ⟨i, rfl⟩ : ∃ x, i = x + 1 := ⟨i - 1, by omega⟩
    obtain ⟨j, rfl⟩ : ∃ x, j = x + 1 := ⟨j - 1, by omega⟩
    simp only [List.length_cons] at hi hj
    show lt S[i].key S[j].key = true
    rw [(hat i (by omega) (by omega)).1, (hat j (by omega) (by omega)).1]
    exact erise_at h.rise i j (by omega) (by omega) (by omega)
  · intro j hj
    cases j with
    | zero => show 0 < hd.ht; omega
    | succ j =>
      simp only [List.length_cons] at hj
      show 0 < S[j].ht
      rw [(hat j (by omega) (by omega)).2.2]
      exact (h.hts _ (List.getElem_mem _)).1
  · intro j hj
    cases j with
    | zero => show hd.ht ≤ 12; omega
    | succ j =>
      simp only [List.length_cons] at hj
      show S[j].ht ≤ 12
      rw [(hat j (by omega) (by omega)).2.2]
      exact (h.hts _ (List.getElem_mem _)).2
  · intro k
    have hc := cutE_le lt k L
    refine ⟨by omega, by rw [List.length_cons]; omega, ?_, ?_⟩
    · intro j hj h0 hjc
      obtain ⟨j, rfl⟩ : ∃ x, j = x + 1 := ⟨j - 1, by omega⟩
      simp only [List.length_cons] at hj
      show lt S[j].key k = true
      rw [(hat j (by omega) (by omega)).1]
      exact cutE_below k L j (by omega) (by omega)
    · intro j hj hjc
      obtain ⟨j, rfl⟩ : ∃ x, j = x + 1 := ⟨j - 1, by omega⟩
      simp only [List.length_cons] at hj
      show lt S[j].key k = false
      rw [(hat j (by omega) (by omega)).1]
      exact cutE_above o k L h.rise j (by omega) (by omega)
  · intro j hj hj'
    exact hat j (by omega) hj
theorem IsSk.below {NT LT : TypeId} {ek : κ → Value} {ev : ν → Value} {lt : κ → κ → Bool} {z0 : κ} {zv : ν} {w w' : World} {B p : Nat} {F : Nat → Prop} {L : List (E3 κ ν)} (h : IsSk NT LT ek ev lt z0 zv w B p F L) (hb : Below w.heap.size w w') : IsSk NT LT ek ev lt z0 zv w' B p F L := by
  obtain ⟨v, hd, S, hS, r⟩ := h.sk
  exact ⟨⟨v, hd, S, hS.below hb, r⟩, h.rise, h.hts⟩
theorem IsSk.chg {NT LT : TypeId} {ek : κ → Value} {ev : ν → Value} {lt : κ → κ → Bool} {z0 : κ} {zv : ν} {w w' : World} {B p : Nat} {F G : Nat → Prop} {L : List (E3 κ ν)} (h : IsSk NT LT ek ev lt z0 zv w B p F L) (hc : Chg G w w') (hd : ∀ k, F k → ¬ G k) : IsSk NT LT ek ev lt z0 zv w' B p F L := by
  obtain ⟨v, h0, S, hS, r1, r2, r3, rfl⟩ := h.sk
  exact ⟨⟨v, h0, S, hS.chg hc hd, r1, r2, r3, rfl⟩, h.rise, h.hts⟩
theorem IsSk.ge {NT LT : TypeId} {ek : κ → Value} {ev : ν → Value} {lt : κ → κ → Bool} {z0 : κ} {zv : ν} {w : World} {B p : Nat} {F : Nat → Prop} {L : List (E3 κ ν)} (h : IsSk NT LT ek ev lt z0 zv w B p F L) : ∀ k, F k → B ≤ k ∧ k < w.heap.size := by
  obtain ⟨v, h0, S, hS, r1, r2, r3, rfl⟩ := h.sk
  exact hS.fp_ge
theorem IsSk.room {NT LT : TypeId} {ek : κ → Value} {ev : ν → Value} {lt : κ → κ → Bool} {z0 : κ} {zv : ν} {w : World} {B p : Nat} {F : Nat → Prop} {L : List (E3 κ ν)} (h : IsSk NT LT ek ev lt z0 zv w B p F L) : B ≤ w.heap.size := by
  obtain ⟨v, h0, S, hS, r1, r2, r3, rfl⟩ := h.sk
  have := hS.low; have := blk_lt hS.box; omega
theorem hasE_T [DecidableEq κ] {lt : κ → κ → Bool} {ev : ν → Value} {z0 : κ} {zv : ν} {T : List (SE κ)} {L : List (E3 κ ν)} (g : Good lt ev z0 zv T L) (k : κ) (hf : hasE L (cutE lt k L) k = false) : ∀ h : cutE lt k L + 1 < T.length, T[cutE lt k L + 1].key ≠ k := fun h e => by
  have hl := g.len
  have h1 := g.ent (cutE lt k L) (by omega) h
  exact hasE_false hf (by omega) (by rw [← h1.1]; exact e)
/-- behind a put of a key that is there -/
theorem IsSk.again [DecidableEq κ] {NT LT : TypeId} {ek : κ → Value} {ev : ν → Value} {lt : κ → κ → Bool} (o : KOrd lt) {z0 : κ} {zv : ν} {w' : World} {B p : Nat} {L : List (E3 κ ν)} {v : Value} {T : List (SE κ)} {k : κ} {y : ν} {h : Nat} (hs : ERise lt L) (hts : ∀ x ∈ L, 1 ≤ x.h ∧ x.h ≤ 12)
    (g : Good lt ev z0 zv T L) (hb : hasE L (cutE lt k L) k = true) (hS : SK NT LT ek w' B p v (T.modify (cutE lt k L + 1) (setV · (ev y)))) : IsSk NT LT ek ev lt z0 zv w' B p (Fp p v T) (putE lt L k y h) := by
  have hc := cutE_le lt k L
  have hl := g.len
  have hpe : putE lt L k y h = L.modify (cutE lt k L) (setE y) := if_pos hb
  refine ⟨?_, putE_rise o hs k y h, ?_⟩
  · rw [hpe]
    cases T with
    | nil => simp at hl
    | cons hd S =>
      rw [List.modify_succ_cons] at hS
      have hz := g.zero (by simp)
      simp only [List.length_cons] at hl
      refine ⟨v, hd, _, hS, ?_, hz.1, hz.2, ?_⟩
      · refine List.ext_getElem (by simp; omega) fun i h1 h2 => ?_
        simp only [List.length_map, List.length_modify] at h1 h2
        have he := g.ent i h2 (by simp; omega)
        simp only [List.getElem_cons_succ] at he
        simp only [List.getElem_map, List.getElem_modify]
        by_cases e : cutE lt k L = i
        · rw [if_pos e, if_pos e]; simp only [triS, tri, setV, setE, he.1, he.2.2]
        · rw [if_neg e, if_neg e]; simp only [triS, tri, he.1, he.2.1, he.2.2]
      · funext x
        unfold Fp
        refine propext ⟨?_, ?_⟩
        · rintro (h | h | ⟨e, he, h⟩)
          · exact .inl h
          · exact .inr (.inl h)
          · refine .inr (.inr ?_)
            rcases List.mem_cons.1 he with rfl | he
            · exact ⟨_, List.mem_cons_self .., h⟩
            · obtain ⟨i, hi, rfl⟩ := List.getElem_of_mem he
              refine ⟨(S.modify (cutE lt k L) (setV · (ev y)))[i]'(by simpa using hi), List.mem_cons_of_mem _ (List.getElem_mem _), ?_⟩
              rw [List.getElem_modify]
              split <;> exact h
        · rintro (h | h | ⟨e, he, h⟩)
          · exact .inl h
          · exact .inr (.inl h)
          · refine .inr (.inr ?_)
            rcases List.mem_cons.1 he with rfl | he
            · exact ⟨_, List.mem_cons_self .., h⟩
            · obtain ⟨i, hi, rfl⟩ := List.getElem_of_mem he
              have hi' : i < S.length := by simpa using hi
              refine ⟨S[i], List.mem_cons_of_mem _ (List.getElem_mem _), ?_⟩
              rw [List.getElem_modify] at h
              split at h <;> exact h
  · rw [hpe]
    intro x hx
    obtain ⟨i, hi, rfl⟩ := List.getElem_of_mem hx
    have hi' : i < L.length := by simpa using hi
    have := hts _ (List.getElem_mem hi')
    rw [List.getElem_modify]
    split <;> exact this
/-- behind a put of a new key -/
theorem IsSk.fresh [DecidableEq κ] {NT LT : TypeId} {ek : κ → Value} {ev : ν → Value} {lt : κ → κ → Bool} (o : KOrd lt) {z0 : κ} {zv : ν} {w w' : World} {B p nb id : Nat} {L : List (E3 κ ν)} {v v2 : Value} {T : List (SE κ)} {k : κ} {y : ν} {h : Nat} (hs : ERise lt L) (hts : ∀ x ∈ L, 1 ≤ x.h ∧ x.h ≤ 12) (h1 : 1 ≤ h) (h12 : h ≤ 12)
    (g : Good lt ev z0 zv T L) (hb : hasE L (cutE lt k L) k = false) (hS : SK NT LT ek w' B p v2 (insT T (cutE lt k L + 1) ⟨k, ev y, h, id, nb⟩)) (hnb : w.heap.size ≤ nb) (hli : Lies w v v2) :
    ∃ F, IsSk NT LT ek ev lt z0 zv w' B p F (putE lt L k y h) ∧ ∀ x, F x → Fp p v T x ∨ w.heap.size ≤ x := by
  have hc := cutE_le lt k L
  have hl := g.len
  have hpe : putE lt L k y h = L.take (cutE lt k L) ++ ⟨k, y, h⟩ :: L.drop (cutE lt k L) := if_neg (by rw [hb]; simp)
  refine ⟨Fp p v2 (insT T (cutE lt k L + 1) ⟨k, ev y, h, id, nb⟩), ⟨?_, putE_rise o hs k y h, ?_⟩, ?_⟩
  · rw [hpe]
    cases T with
    | nil => simp at hl
    | cons hd S =>
      have hz := g.zero (by simp)
      simp only [List.length_cons] at hl
      have hmap : S.map triS = L.map (tri ev) := by
        refine List.ext_getElem (by simp; omega) fun i h1 h2 => ?_
        simp only [List.length_map] at h1 h2
        have he := g.ent i h2 (by simp; omega)
        simp only [List.getElem_cons_succ] at he
        simp only [List.getElem_map, triS, tri, he.1, he.2.1, he.2.2]
      refine ⟨v2, hd, S.take (cutE lt k L) ++ ⟨k, ev y, h, id, nb⟩ :: S.drop (cutE lt k L), hS, ?_, hz.1, hz.2, rfl⟩
      rw [List.map_append, List.map_append, List.map_cons, List.map_cons, List.map_take, List.map_take, List.map_drop, List.map_drop, hmap]
      rfl
  · rw [hpe]
    intro x hx
    rcases List.mem_append.1 hx with hx | hx
    · exact hts x (List.mem_of_mem_take hx)
    · rcases List.mem_cons.1 hx with rfl | hx
      · exact ⟨h1, h12⟩
      · exact hts x (List.mem_of_mem_drop hx)
  · rintro x (hx | hx | ⟨e, he, hx⟩)
    · exact .inl (.inl hx)
    · rcases hli with e | ⟨q, e, hq⟩
      · exact .inl (.inr (.inl (by rw [← e]; exact hx)))
      · rw [e] at hx
        cases hx
        exact .inr hq
    · rcases insT_mem he with rfl | he
      · right; rw [← hx]; exact hnb
      · exact .inl (.inr (.inr ⟨e, he, hx⟩))
end
end Go.Proofs.Ythpafhimmhacfaa
