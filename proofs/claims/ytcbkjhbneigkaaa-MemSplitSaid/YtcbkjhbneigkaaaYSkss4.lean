/- The list at [string, string], part 4 (printed by inst.py). -/
import Derived.Test.YtcbkjhbneigkaaaYSkss2
import Derived.Test.YtcbkjhbneigkaaaYSkss3
import Derived.Test.YtcbkjhbneigkaaaYJa
namespace Go.Proofs.Ytcbkjhbneigkaaa.ss
open Go.RowKit
set_option linter.unusedVariables false
set_option linter.unusedSimpArgs false
set_option linter.unusedSectionVars false
abbrev LI (w : World) (B p : Nat) (F : Nat → Prop) (L : List (E3 ByteArray ByteArray)) : Prop := IsSk 91 94 (.string) (.string) blt ByteArray.empty ByteArray.empty w B p F L
/-- what is told of entry i -/
def tkE (L : List (E3 ByteArray ByteArray)) (i : Nat) : ByteArray := if h : i < L.length then L[i].k else ByteArray.empty
def tvE (L : List (E3 ByteArray ByteArray)) (i : Nat) : ByteArray := if h : i < L.length then L[i].v else ByteArray.empty
def tbE (L : List (E3 ByteArray ByteArray)) (i : Nat) : Bool := decide (i < L.length)
def cI (L : List (E3 ByteArray ByteArray)) (k : ByteArray) : Nat := cutE blt k L
def hI (L : List (E3 ByteArray ByteArray)) (k : ByteArray) : Bool := hasE L (cutE blt k L) k
def ceilE (L : List (E3 ByteArray ByteArray)) (k : ByteArray) : Nat := cI L k
def prevE (L : List (E3 ByteArray ByteArray)) (k : ByteArray) : Nat := if cI L k = 0 then L.length else cI L k - 1
def floorE (L : List (E3 ByteArray ByteArray)) (k : ByteArray) : Nat := if hI L k = true then cI L k else prevE L k
def nextE (L : List (E3 ByteArray ByteArray)) (k : ByteArray) : Nat := if hI L k = true then cI L k + 1 else cI L k
def getE (L : List (E3 ByteArray ByteArray)) (k : ByteArray) : Nat := if hI L k = true then cI L k else L.length
def htE (L : List (E3 ByteArray ByteArray)) (k : ByteArray) : Nat := if hI L k = true then (if h : cI L k < L.length then L[cI L k].h else 0) else 0

theorem tellis {w : World} {B p : Nat} {v : Value} {T : List (SE ByteArray)} {L : List (E3 ByteArray ByteArray)} (hS : SK 91 94 (.string) w B p v T) (g : Good blt (.string) ByteArray.empty ByteArray.empty T L) (i x : Nat) (hx : (i < L.length ∧ x = i + 1) ∨ (L.length ≤ i ∧ x = 0)) :
    TellIs T x (tkE L i) (tvE L i) (tbE L i) := by
  obtain ⟨h0, hh0, hid0⟩ := level_room hS
  have hl := g.len
  unfold tbE
  rcases hx with ⟨hi, rfl⟩ | ⟨hi, rfl⟩
  · have hi' : i + 1 < T.length := by omega
    obtain ⟨e1, e2, e3⟩ := g.ent i hi hi'
    refine ⟨hi', ?_, ?_, ?_⟩
    · rw [e1, tkE, dif_pos hi]
    · rw [e2, tvE, dif_pos hi]
    · have hne : T[i + 1].id ≠ 0 := fun e => by
        have := hS.ids 0 (i + 1) h0 hi' (by rw [hid0, e])
        omega
      rw [decide_eq_true hi, bne_iff_ne]; omega
  · obtain ⟨e1, e2⟩ := g.zero h0
    refine ⟨h0, ?_, ?_, ?_⟩
    · rw [e1, tkE, dif_neg (by omega)]
    · rw [e2, tvE, dif_neg (by omega)]
    · rw [hid0, decide_eq_false (by omega)]; rfl
theorem LI.new (w : World) : Calls Try.prog 24 #[] w fun e w' => ∃ p F, e = .returned (.pointer (some ⟨p, 0, none⟩)) ∧ LI w' w.heap.size p F [] ∧ Below w.heap.size w w' :=
  (new_ii w).mono fun e w' ⟨p, v, h1, h2, h3⟩ => ⟨p, _, h1, ⟨⟨v, _, _, h2, rfl, rfl, rfl, rfl⟩, trivial, fun x hx => by cases hx⟩, h3⟩
theorem LI.put {w : World} {B p : Nat} {F : Nat → Prop} {L : List (E3 ByteArray ByteArray)} (h : LI w B p F L) (hl : L.length ≤ 999999) (k : ByteArray) (y : ByteArray) (ht : Nat) (h1 : 1 ≤ ht) (h2 : ht ≤ 12) :
    Calls Try.prog 28 #[.pointer (some ⟨p, 0, none⟩), .string k, .string y, .int .i64 (ht : Nat)] w fun e w' => e = .returned (.tuple #[.bool (!hI L k), .int .i64 0]) ∧
      (∃ F', LI w' B p F' (putE blt L k y ht) ∧ ∀ x, F' x → F x ∨ w.heap.size ≤ x) ∧ Chg F w w' ∧ Below B w w' := by
  obtain ⟨v, T, hS, g, hF⟩ := h.good blt_ord
  have hTl := g.len
  subst hF
  have hge : ∀ k, Fp p v T k → B ≤ k := fun k hk => (hS.fp_ge k hk).1
  have hB := h.room
  cases hb : hI L k with
  | true =>
    obtain ⟨hc, hk⟩ := hasE_true.1 hb
    have hc' : cutE blt k L + 1 < T.length := by omega
    obtain ⟨e1, e2, e3⟩ := g.ent _ hc hc'
    refine (put_again_ii hS g.rise (by omega) g.pos k _ y ht (by omega) (by omega) (cutE blt k L + 1) (g.cut k) hc' (by rw [e1, hk]) e2 hB).mono fun e w' ⟨r1, r2, r3⟩ => ⟨r1, ⟨_, IsSk.again blt_ord h.rise h.hts g hb r2, fun x hx => .inl hx⟩, r3, r3.below hge hB⟩
  | false =>
    refine (put_new_ii hS g.rise (by omega) g.pos k y ht h1 h2 (cutE blt k L + 1) (g.cut k) (hasE_T g k hb)).mono fun e w' ⟨r1, v2, nb, r2, r3, r4, r5⟩ => ⟨r1, ?_, r3, r3.below hge hB⟩
    exact IsSk.fresh blt_ord h.rise h.hts h1 h2 g hb r2 r4 r5
theorem LI.len {w : World} {B p : Nat} {F : Nat → Prop} {L : List (E3 ByteArray ByteArray)} (h : LI w B p F L) (hl : L.length ≤ 999999) :
    Calls Try.prog 39 #[.pointer (some ⟨p, 0, none⟩)] w fun e w' => e = .returned (.int .i64 (L.length : Nat)) ∧ w = w' := by
  obtain ⟨v, T, hS, g, rfl⟩ := h.good blt_ord
  have hTl := g.len
  exact (sklen_ii hS (by omega)).mono fun e w' ⟨r1, r2⟩ => ⟨by rw [r1, show (T.length : Int) - 1 = (L.length : Nat) by omega], r2⟩
theorem LI.ceil {w : World} {B p : Nat} {F : Nat → Prop} {L : List (E3 ByteArray ByteArray)} (h : LI w B p F L) (hl : L.length ≤ 999999) (k : ByteArray) :
    Calls Try.prog 31 #[.pointer (some ⟨p, 0, none⟩), .string k] w fun e w' => e = .returned (.tuple #[.string (tkE L (ceilE L k)), .string (tvE L (ceilE L k)), .bool (tbE L (ceilE L k))]) ∧ Below w.heap.size w w' := by
  obtain ⟨v, T, hS, g, rfl⟩ := h.good blt_ord
  have hTl := g.len
  have hc := cutE_le blt k L
  refine Ceil_ii hS g.rise (by omega) g.pos k _ (g.cut k) _ _ _ (tellis hS g _ _ ?_)
  unfold ceilE cI
  by_cases hx : cutE blt k L < L.length
  · exact .inl ⟨hx, if_pos (by omega)⟩
  · exact .inr ⟨by omega, if_neg (by omega)⟩
theorem prev_place {T : List (SE ByteArray)} {L : List (E3 ByteArray ByteArray)} (g : Good blt (.string) ByteArray.empty ByteArray.empty T L) (k : ByteArray) : (prevE L k < L.length ∧ cutE blt k L + 1 - 1 = prevE L k + 1) ∨ (L.length ≤ prevE L k ∧ cutE blt k L + 1 - 1 = 0) := by
  have hc := cutE_le blt k L
  unfold prevE cI
  by_cases hx : cutE blt k L = 0
  · rw [if_pos hx]; exact .inr ⟨Nat.le_refl _, by omega⟩
  · rw [if_neg hx]; exact .inl ⟨by omega, by omega⟩
theorem fnd_is {T : List (SE ByteArray)} {L : List (E3 ByteArray ByteArray)} (g : Good blt (.string) ByteArray.empty ByteArray.empty T L) (k : ByteArray) : (hI L k = true ∧ cutE blt k L < L.length ∧ fnd T (cutE blt k L + 1) k = cutE blt k L + 1) ∨ (hI L k = false ∧ fnd T (cutE blt k L + 1) k = 0) := by
  have hTl := g.len
  cases hb : hI L k with
  | true =>
    obtain ⟨hc, hk⟩ := hasE_true.1 hb
    obtain ⟨e1, _, _⟩ := g.ent _ hc (by omega)
    refine .inl ⟨rfl, hc, ?_⟩
    unfold fnd
    rw [dif_pos (show cutE blt k L + 1 < T.length by omega), if_pos (by rw [e1, hk])]
  | false =>
    refine .inr ⟨rfl, ?_⟩
    unfold fnd
    by_cases hlt : cutE blt k L + 1 < T.length
    · rw [dif_pos hlt, if_neg (hasE_T g k hb hlt)]
    · rw [dif_neg hlt]
theorem LI.get {w : World} {B p : Nat} {F : Nat → Prop} {L : List (E3 ByteArray ByteArray)} (h : LI w B p F L) (hl : L.length ≤ 999999) (k : ByteArray) :
    Calls Try.prog 41 #[.pointer (some ⟨p, 0, none⟩), .string k] w fun e w' => e = .returned (.tuple #[.string (tvE L (getE L k)), .bool (tbE L (getE L k))]) ∧ Below w.heap.size w w' := by
  obtain ⟨v, T, hS, g, rfl⟩ := h.good blt_ord
  have hTl := g.len
  refine Get_ii hS g.rise (by omega) g.pos k _ (g.cut k) (tkE L (getE L k)) _ _ (tellis hS g _ _ ?_)
  unfold getE
  rcases fnd_is g k with ⟨h1, h2, h3⟩ | ⟨h1, h3⟩
  · rw [if_pos h1]; exact .inl ⟨h2, h3⟩
  · rw [if_neg (by rw [h1]; simp)]; exact .inr ⟨Nat.le_refl _, h3⟩
theorem keysT_E {T : List (SE ByteArray)} {L : List (E3 ByteArray ByteArray)} (g : Good blt (.string) ByteArray.empty ByteArray.empty T L) : keysT T T.length = L.map E3.k := by
  have hl := g.len
  unfold keysT
  rw [List.take_of_length_le (Nat.le_refl _)]
  refine List.ext_getElem (by simp; omega) fun i h1 h2 => ?_
  rw [List.length_map] at h2
  obtain ⟨e1, _, _⟩ := g.ent i h2 (by omega)
  simp only [List.getElem_map, List.getElem_drop]
  rw [← e1]
  simp only [Nat.add_comm 1 i]
theorem LI.keys {w : World} {B p : Nat} {F : Nat → Prop} {L : List (E3 ByteArray ByteArray)} (h : LI w B p F L) (hl : L.length ≤ 999999) :
    Calls Try.prog 40 #[.pointer (some ⟨p, 0, none⟩)] w fun e w' => ∃ u, e = .returned u ∧ w'.ownsRow w.heap.size 9 1 u L.length (evs (L.map E3.k)) ∧ Below w.heap.size w w' := by
  obtain ⟨v, T, hS, g, rfl⟩ := h.good blt_ord
  have hTl := g.len
  refine (Keys_ii hS (by omega) g.pos).mono fun e w' ⟨u, r1, r2, r3⟩ => ⟨u, r1, ?_, r3⟩
  rw [keysT_E g, List.length_map] at r2
  exact r2
theorem tkE_at {L : List (E3 ByteArray ByteArray)} {i : Nat} (h : i < L.length) : tkE L i = L[i].k := dif_pos h
theorem tvE_at {L : List (E3 ByteArray ByteArray)} {i : Nat} (h : i < L.length) : tvE L i = L[i].v := dif_pos h
theorem tbE_true {L : List (E3 ByteArray ByteArray)} {i : Nat} : tbE L i = true ↔ i < L.length := decide_eq_true_iff
theorem tbE_false {L : List (E3 ByteArray ByteArray)} {i : Nat} : tbE L i = false ↔ L.length ≤ i := by unfold tbE; rw [decide_eq_false_iff_not]; omega
/-- what is told of a key that is there -/
theorem has_tells {L : List (E3 ByteArray ByteArray)} {k : ByteArray} (h : hI L k = true) : ∃ hc : cI L k < L.length, L[cI L k].k = k ∧ getE L k = cI L k ∧ floorE L k = cI L k ∧ ceilE L k = cI L k := by
  obtain ⟨hc, hk⟩ := hasE_true.1 h
  exact ⟨hc, hk, if_pos h, if_pos h, rfl⟩
theorem tb_get (L : List (E3 ByteArray ByteArray)) (k : ByteArray) : tbE L (getE L k) = hI L k := by
  cases h : hI L k with
  | true => obtain ⟨hc, _, e, _⟩ := has_tells h; rw [e]; exact tbE_true.2 hc
  | false => unfold getE; rw [if_neg (by rw [h]; simp)]; exact tbE_false.2 (Nat.le_refl _)
end Go.Proofs.Ytcbkjhbneigkaaa.ss
