/- The list at [int, bool], part 4 (printed by inst.py). -/
import Derived.Test.YthpafhimmhacfaaSkib2
import Derived.Test.YthpafhimmhacfaaSkib3
import Derived.Test.YthpafhimmhacfaaSkQ
namespace Go.Proofs.Ythpafhimmhacfaa.ib
open Go.RowKit
set_option linter.unusedVariables false
set_option linter.unusedSimpArgs false
set_option linter.unusedSectionVars false
abbrev LI (w : World) (B p : Nat) (F : Nat → Prop) (L : List (E3 Int Bool)) : Prop := IsSk 93 96 (.int .i64) (.bool) ilt 0 false w B p F L
/-- what is told of entry i -/
def tkE (L : List (E3 Int Bool)) (i : Nat) : Int := if h : i < L.length then L[i].k else 0
def tvE (L : List (E3 Int Bool)) (i : Nat) : Bool := if h : i < L.length then L[i].v else false
def tbE (L : List (E3 Int Bool)) (i : Nat) : Bool := decide (i < L.length)
def cI (L : List (E3 Int Bool)) (k : Int) : Nat := cutE ilt k L
def hI (L : List (E3 Int Bool)) (k : Int) : Bool := hasE L (cutE ilt k L) k
def ceilE (L : List (E3 Int Bool)) (k : Int) : Nat := cI L k
def prevE (L : List (E3 Int Bool)) (k : Int) : Nat := if cI L k = 0 then L.length else cI L k - 1
def floorE (L : List (E3 Int Bool)) (k : Int) : Nat := if hI L k = true then cI L k else prevE L k
def nextE (L : List (E3 Int Bool)) (k : Int) : Nat := if hI L k = true then cI L k + 1 else cI L k
def getE (L : List (E3 Int Bool)) (k : Int) : Nat := if hI L k = true then cI L k else L.length
def htE (L : List (E3 Int Bool)) (k : Int) : Nat := if hI L k = true then (if h : cI L k < L.length then L[cI L k].h else 0) else 0

theorem tellis {w : World} {B p : Nat} {v : Value} {T : List (SE Int)} {L : List (E3 Int Bool)} (hS : SK 93 96 (.int .i64) w B p v T) (g : Good ilt (.bool) 0 false T L) (i x : Nat) (hx : (i < L.length ∧ x = i + 1) ∨ (L.length ≤ i ∧ x = 0)) :
    TellIs T x (tkE L i) (tvE L i) (tbE L i) := by
  obtain ⟨h0, hh0, hid0⟩ := level_room hS
  have hl := g.len
  unfold tbE
  rcases hx with ⟨hi, rfl⟩ | ⟨hi, rfl⟩
  · have hi' : i + 1 < T.length := by omega
    obtain ⟨e1, e2, e3⟩ := g.ent i hi hi'
    refine ⟨hi', ?_, ?_, ?_⟩
    · rw [e1, tkE, dif_pos hi]
    · rw [e2, tvE, dif_pos hi]
    · have hne : T[i + 1].id ≠ 0 := fun e => by
        have := hS.ids 0 (i + 1) h0 hi' (by rw [hid0, e])
        omega
      rw [decide_eq_true hi, bne_iff_ne]; omega
  · obtain ⟨e1, e2⟩ := g.zero h0
    refine ⟨h0, ?_, ?_, ?_⟩
    · rw [e1, tkE, dif_neg (by omega)]
    · rw [e2, tvE, dif_neg (by omega)]
    · rw [hid0, decide_eq_false (by omega)]; rfl
theorem LI.new (w : World) : Calls Try.prog 26 #[] w fun e w' => ∃ p F, e = .returned (.pointer (some ⟨p, 0, none⟩)) ∧ LI w' w.heap.size p F [] ∧ Below w.heap.size w w' :=
  (new_ii w).mono fun e w' ⟨p, v, h1, h2, h3⟩ => ⟨p, _, h1, ⟨⟨v, _, _, h2, rfl, rfl, rfl, rfl⟩, trivial, fun x hx => by cases hx⟩, h3⟩
theorem LI.put {w : World} {B p : Nat} {F : Nat → Prop} {L : List (E3 Int Bool)} (h : LI w B p F L) (hl : L.length ≤ 999999) (k : Int) (y : Bool) (ht : Nat) (h1 : 1 ≤ ht) (h2 : ht ≤ 12) :
    Calls Try.prog 27 #[.pointer (some ⟨p, 0, none⟩), .int .i64 k, .bool y, .int .i64 (ht : Nat)] w fun e w' => e = .returned (.tuple #[.bool (!hI L k), .int .i64 0]) ∧
      (∃ F', LI w' B p F' (putE ilt L k y ht) ∧ ∀ x, F' x → F x ∨ w.heap.size ≤ x) ∧ Chg F w w' ∧ Below B w w' := by
  obtain ⟨v, T, hS, g, hF⟩ := h.good ilt_ord
  have hTl := g.len
  subst hF
  have hge : ∀ k, Fp p v T k → B ≤ k := fun k hk => (hS.fp_ge k hk).1
  have hB := h.room
  cases hb : hI L k with
  | true =>
    obtain ⟨hc, hk⟩ := hasE_true.1 hb
    have hc' : cutE ilt k L + 1 < T.length := by omega
    obtain ⟨e1, e2, e3⟩ := g.ent _ hc hc'
    refine (put_again_ii hS g.rise (by omega) g.pos k _ y ht (by omega) (by omega) (cutE ilt k L + 1) (g.cut k) hc' (by rw [e1, hk]) e2 hB).mono fun e w' ⟨r1, r2, r3⟩ => ⟨r1, ⟨_, IsSk.again ilt_ord h.rise h.hts g hb r2, fun x hx => .inl hx⟩, r3, r3.below hge hB⟩
  | false =>
    refine (put_new_ii hS g.rise (by omega) g.pos k y ht h1 h2 (cutE ilt k L + 1) (g.cut k) (hasE_T g k hb)).mono fun e w' ⟨r1, v2, nb, r2, r3, r4, r5⟩ => ⟨r1, ?_, r3, r3.below hge hB⟩
    exact IsSk.fresh ilt_ord h.rise h.hts h1 h2 g hb r2 r4 r5
theorem LI.len {w : World} {B p : Nat} {F : Nat → Prop} {L : List (E3 Int Bool)} (h : LI w B p F L) (hl : L.length ≤ 999999) :
    Calls Try.prog 33 #[.pointer (some ⟨p, 0, none⟩)] w fun e w' => e = .returned (.int .i64 (L.length : Nat)) ∧ w = w' := by
  obtain ⟨v, T, hS, g, rfl⟩ := h.good ilt_ord
  have hTl := g.len
  exact (sklen_ii hS (by omega)).mono fun e w' ⟨r1, r2⟩ => ⟨by rw [r1, show (T.length : Int) - 1 = (L.length : Nat) by omega], r2⟩
theorem prev_place {T : List (SE Int)} {L : List (E3 Int Bool)} (g : Good ilt (.bool) 0 false T L) (k : Int) : (prevE L k < L.length ∧ cutE ilt k L + 1 - 1 = prevE L k + 1) ∨ (L.length ≤ prevE L k ∧ cutE ilt k L + 1 - 1 = 0) := by
  have hc := cutE_le ilt k L
  unfold prevE cI
  by_cases hx : cutE ilt k L = 0
  · rw [if_pos hx]; exact .inr ⟨Nat.le_refl _, by omega⟩
  · rw [if_neg hx]; exact .inl ⟨by omega, by omega⟩
theorem LI.prev {w : World} {B p : Nat} {F : Nat → Prop} {L : List (E3 Int Bool)} (h : LI w B p F L) (hl : L.length ≤ 999999) (k : Int) :
    Calls Try.prog 32 #[.pointer (some ⟨p, 0, none⟩), .int .i64 k] w fun e w' => e = .returned (.tuple #[.int .i64 (tkE L (prevE L k)), .bool (tvE L (prevE L k)), .bool (tbE L (prevE L k))]) ∧ Below w.heap.size w w' := by
  obtain ⟨v, T, hS, g, rfl⟩ := h.good ilt_ord
  have hTl := g.len
  exact Prev_ii hS g.rise (by omega) g.pos k _ (g.cut k) _ _ _ (tellis hS g _ _ (prev_place g k))
theorem fnd_is {T : List (SE Int)} {L : List (E3 Int Bool)} (g : Good ilt (.bool) 0 false T L) (k : Int) : (hI L k = true ∧ cutE ilt k L < L.length ∧ fnd T (cutE ilt k L + 1) k = cutE ilt k L + 1) ∨ (hI L k = false ∧ fnd T (cutE ilt k L + 1) k = 0) := by
  have hTl := g.len
  cases hb : hI L k with
  | true =>
    obtain ⟨hc, hk⟩ := hasE_true.1 hb
    obtain ⟨e1, _, _⟩ := g.ent _ hc (by omega)
    refine .inl ⟨rfl, hc, ?_⟩
    unfold fnd
    rw [dif_pos (show cutE ilt k L + 1 < T.length by omega), if_pos (by rw [e1, hk])]
  | false =>
    refine .inr ⟨rfl, ?_⟩
    unfold fnd
    by_cases hlt : cutE ilt k L + 1 < T.length
    · rw [dif_pos hlt, if_neg (hasE_T g k hb hlt)]
    · rw [dif_neg hlt]
theorem LI.next {w : World} {B p : Nat} {F : Nat → Prop} {L : List (E3 Int Bool)} (h : LI w B p F L) (hl : L.length ≤ 999999) (k : Int) :
    Calls Try.prog 30 #[.pointer (some ⟨p, 0, none⟩), .int .i64 k] w fun e w' => e = .returned (.tuple #[.int .i64 (tkE L (nextE L k)), .bool (tvE L (nextE L k)), .bool (tbE L (nextE L k))]) ∧ Below w.heap.size w w' := by
  obtain ⟨v, T, hS, g, rfl⟩ := h.good ilt_ord
  have hTl := g.len
  refine Next_ii hS g.rise (by omega) g.pos k _ (g.cut k) (nextE L k + 1) ?_ _ _ _ (tellis hS g _ _ ?_)
  · unfold nextE
    cases hb : hI L k with
    | true =>
      obtain ⟨hc, hk⟩ := hasE_true.1 hb
      obtain ⟨e1, _, _⟩ := g.ent _ hc (by omega)
      exact .inl ⟨by omega, by rw [e1, hk], by rw [if_pos rfl]; rfl⟩
    | false => exact .inr ⟨hasE_T g k hb, by rw [if_neg (by simp)]; rfl⟩
  · by_cases hx : nextE L k < L.length
    · exact .inl ⟨hx, if_pos (by omega)⟩
    · exact .inr ⟨by omega, if_neg (by omega)⟩
theorem LI.first {w : World} {B p : Nat} {F : Nat → Prop} {L : List (E3 Int Bool)} (h : LI w B p F L) (hl : L.length ≤ 999999) :
    Calls Try.prog 29 #[.pointer (some ⟨p, 0, none⟩)] w fun e w' => e = .returned (.tuple #[.int .i64 (tkE L 0), .bool (tvE L 0), .bool (tbE L 0)]) ∧ Below w.heap.size w w' := by
  obtain ⟨v, T, hS, g, rfl⟩ := h.good ilt_ord
  have hTl := g.len
  refine First_ii hS (by omega) g.pos _ _ _ (tellis hS g _ _ ?_)
  by_cases hx : 0 < L.length
  · exact .inl ⟨hx, if_pos (by omega)⟩
  · exact .inr ⟨by omega, if_neg (by omega)⟩
theorem LI.last {w : World} {B p : Nat} {F : Nat → Prop} {L : List (E3 Int Bool)} (h : LI w B p F L) (hl : L.length ≤ 999999) :
    Calls Try.prog 31 #[.pointer (some ⟨p, 0, none⟩)] w fun e w' => e = .returned (.tuple #[.int .i64 (tkE L (L.length - 1)), .bool (tvE L (L.length - 1)), .bool (tbE L (L.length - 1))]) ∧ Below w.heap.size w w' := by
  obtain ⟨v, T, hS, g, rfl⟩ := h.good ilt_ord
  have hTl := g.len
  refine Last_ii hS (by omega) g.pos g.top _ _ _ (tellis hS g _ _ ?_)
  by_cases hx : 0 < L.length
  · exact .inl ⟨by omega, by omega⟩
  · exact .inr ⟨by omega, by omega⟩
theorem keysT_E {T : List (SE Int)} {L : List (E3 Int Bool)} (g : Good ilt (.bool) 0 false T L) : keysT T T.length = L.map E3.k := by
  have hl := g.len
  unfold keysT
  rw [List.take_of_length_le (Nat.le_refl _)]
  refine List.ext_getElem (by simp; omega) fun i h1 h2 => ?_
  rw [List.length_map] at h2
  obtain ⟨e1, _, _⟩ := g.ent i h2 (by omega)
  simp only [List.getElem_map, List.getElem_drop]
  rw [← e1]
  simp only [Nat.add_comm 1 i]
theorem LI.keys {w : World} {B p : Nat} {F : Nat → Prop} {L : List (E3 Int Bool)} (h : LI w B p F L) (hl : L.length ≤ 999999) :
    Calls Try.prog 28 #[.pointer (some ⟨p, 0, none⟩)] w fun e w' => ∃ u, e = .returned u ∧ w'.ownsRow w.heap.size 3 1 u L.length (evs (L.map E3.k)) ∧ Below w.heap.size w w' := by
  obtain ⟨v, T, hS, g, rfl⟩ := h.good ilt_ord
  have hTl := g.len
  refine (Keys_ii hS (by omega) g.pos).mono fun e w' ⟨u, r1, r2, r3⟩ => ⟨u, r1, ?_, r3⟩
  rw [keysT_E g, List.length_map] at r2
  exact r2
theorem tkE_at {L : List (E3 Int Bool)} {i : Nat} (h : i < L.length) : tkE L i = L[i].k := dif_pos h
theorem tvE_at {L : List (E3 Int Bool)} {i : Nat} (h : i < L.length) : tvE L i = L[i].v := dif_pos h
theorem tbE_true {L : List (E3 Int Bool)} {i : Nat} : tbE L i = true ↔ i < L.length := decide_eq_true_iff
theorem tbE_false {L : List (E3 Int Bool)} {i : Nat} : tbE L i = false ↔ L.length ≤ i := by unfold tbE; rw [decide_eq_false_iff_not]; omega
theorem btw {L : List (E3 Int Bool)} (hr : ERise ilt L) (K : List Int) (hK : ∀ x ∈ K, x ∈ L.map E3.k) (k : Int) (hf : hI L k = false) :
    Btw K k (tkE L (floorE L k)) (tkE L (ceilE L k)) (tbE L (floorE L k)) (tbE L (ceilE L k)) := by
  have hc := cutE_le ilt k L
  have hlo : ∀ j (hj : j < L.length), j < cutE ilt k L → L[j].k < k := fun j hj h => of_decide_eq_true (cutE_below (lt := ilt) k L j hj h)
  have hhi : ∀ j (hj : j < L.length), cutE ilt k L ≤ j → k < L[j].k := fun j hj h => by
    have h1 : ¬ L[j].k < k := of_decide_eq_false (cutE_above ilt_ord k L hr j hj h)
    have h2 : L[j].k ≠ k := fun e => by
      have h3 := (hasE_mem ilt_ord hr k).2 (List.mem_map.2 ⟨_, List.getElem_mem hj, e⟩)
      rw [show hasE L (cutE ilt k L) k = false from hf] at h3; cases h3
    omega
  have hri : ∀ i j (hi : i < L.length) (hj : j < L.length), i ≤ j → L[i].k ≤ L[j].k := fun i j hi hj hij => by
    rcases Nat.eq_or_lt_of_le hij with rfl | h
    · exact Int.le_refl _
    · exact Int.le_of_lt (of_decide_eq_true (erise_at hr i j hi hj h))
  have hfl : floorE L k = prevE L k := by unfold floorE; rw [if_neg (by rw [hf]; simp)]
  have hce : ceilE L k = cutE ilt k L := rfl
  have hget : ∀ x ∈ K, ∃ j, ∃ hj : j < L.length, L[j].k = x := fun x hx => by
    obtain ⟨e, he, rfl⟩ := List.mem_map.1 (hK x hx)
    obtain ⟨i, hi, rfl⟩ := List.getElem_of_mem he
    exact ⟨i, hi, rfl⟩
  rw [hfl, hce]
  have hpv : tbE L (prevE L k) = true → 0 < cutE ilt k L ∧ prevE L k = cutE ilt k L - 1 := fun h => by
    rw [tbE_true] at h
    unfold prevE cI at h ⊢
    split at h
    · omega
    · rename_i h0; rw [if_neg h0]; exact ⟨by omega, rfl⟩
  have hpn : tbE L (prevE L k) = false → cutE ilt k L = 0 := fun h => by
    rw [tbE_false] at h
    unfold prevE cI at h
    split at h
    · assumption
    · omega
  refine ⟨?_, ?_, ?_, ?_, ?_, ?_, ?_⟩
  · intro x hx e
    obtain ⟨j, hj, rfl⟩ := hget x hx
    have h3 := (hasE_mem ilt_ord hr k).2 (List.mem_map.2 ⟨_, List.getElem_mem hj, e⟩)
    rw [show hasE L (cutE ilt k L) k = false from hf] at h3; cases h3
  · intro h
    obtain ⟨h0, e⟩ := hpv h
    rw [e, tkE_at (by omega)]; exact hlo _ _ (by omega)
  · intro h
    rw [tbE_true] at h
    rw [tkE_at h]; exact hhi _ _ (Nat.le_refl _)
  · intro x hx h hxk
    obtain ⟨j, hj, rfl⟩ := hget x hx
    obtain ⟨h0, e⟩ := hpv h
    rw [e, tkE_at (by omega)]
    refine hri _ _ _ _ ?_
    rcases Nat.lt_or_ge j (cutE ilt k L) with h | h
    · omega
    · have := hhi j hj h; omega
  · intro x hx h hxk
    obtain ⟨j, hj, rfl⟩ := hget x hx
    rw [tbE_true] at h
    rw [tkE_at h]
    refine hri _ _ _ _ ?_
    rcases Nat.lt_or_ge j (cutE ilt k L) with h | h
    · have := hlo j hj h; omega
    · omega
  · intro x hx h
    obtain ⟨j, hj, rfl⟩ := hget x hx
    exact hhi j hj (by rw [hpn h]; omega)
  · intro x hx h
    obtain ⟨j, hj, rfl⟩ := hget x hx
    rw [tbE_false] at h
    exact hlo j hj (by omega)
/-- the one behind the one below -/
theorem btw_next {L : List (E3 Int Bool)} (hr : ERise ilt L) (k : Int) (hf : hI L k = false) (ha : tbE L (floorE L k) = true) :
    tbE L (nextE L (tkE L (floorE L k))) = tbE L (ceilE L k) ∧ tkE L (nextE L (tkE L (floorE L k))) = tkE L (ceilE L k) := by
  have hc := cutE_le ilt k L
  have hfl : floorE L k = prevE L k := by unfold floorE; rw [if_neg (by rw [hf]; simp)]
  have hpv : 0 < cutE ilt k L ∧ floorE L k = cutE ilt k L - 1 := by
    rw [tbE_true, hfl] at ha
    rw [hfl]
    unfold prevE cI at ha ⊢
    split at ha
    · omega
    · rename_i h0; rw [if_neg h0]; exact ⟨by omega, rfl⟩
  obtain ⟨h0, e⟩ := hpv
  have hx : nextE L (tkE L (floorE L k)) = ceilE L k := by
    have hlt : cutE ilt k L - 1 < L.length := by omega
    rw [e, tkE_at hlt]
    unfold nextE hI cI
    rw [hasE_at ilt_ord hr _ hlt, if_pos rfl, cutE_at ilt_ord hr _ hlt]
    show _ = cutE ilt k L
    omega
  rw [hx]; exact ⟨rfl, rfl⟩
/-- what is told of a key that is there -/
theorem has_tells {L : List (E3 Int Bool)} {k : Int} (h : hI L k = true) : ∃ hc : cI L k < L.length, L[cI L k].k = k ∧ getE L k = cI L k ∧ floorE L k = cI L k ∧ ceilE L k = cI L k := by
  obtain ⟨hc, hk⟩ := hasE_true.1 h
  exact ⟨hc, hk, if_pos h, if_pos h, rfl⟩
theorem tb_get (L : List (E3 Int Bool)) (k : Int) : tbE L (getE L k) = hI L k := by
  cases h : hI L k with
  | true => obtain ⟨hc, _, e, _⟩ := has_tells h; rw [e]; exact tbE_true.2 hc
  | false => unfold getE; rw [if_neg (by rw [h]; simp)]; exact tbE_false.2 (Nat.le_refl _)
end Go.Proofs.Ythpafhimmhacfaa.ib
