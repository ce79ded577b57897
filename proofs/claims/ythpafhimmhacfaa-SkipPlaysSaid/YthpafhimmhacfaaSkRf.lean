/- The document's list of chapter 05: in memory, Find, Above, Below, found. -/
import Derived.Test.YthpafhimmhacfaaSkR
import Derived.Test.YthpafhimmhacfaaSkM
namespace Go.Proofs.Ythpafhimmhacfaa
open Go.RowKit
set_option linter.unusedVariables false
set_option linter.unusedSimpArgs false

def prow (L : List (E3 Int Int)) : List Value := L.flatMap fun e => [.int .i64 e.k, .int .i64 e.v, .int .i64 (e.h : Nat)]
theorem prow_cons (x : E3 Int Int) (L : List (E3 Int Int)) : prow (x :: L) = .int .i64 x.k :: .int .i64 x.v :: .int .i64 (x.h : Nat) :: prow L := rfl
theorem prow_append (l m : List (E3 Int Int)) : prow (l ++ m) = prow l ++ prow m := by unfold prow; rw [List.flatMap_append]
theorem prow_len : ∀ l : List (E3 Int Int), (prow l).length = l.length * 3
  | [] => rfl
  | x :: l => by rw [prow_cons, List.length_cons, List.length_cons, List.length_cons, prow_len l, List.length_cons]; omega
theorem prow_at : ∀ (l : List (E3 Int Int)) (k : Nat) (h : k < l.length), (prow l)[k * 3]? = some (.int .i64 l[k].k) ∧ (prow l)[k * 3 + 1]? = some (.int .i64 l[k].v) ∧ (prow l)[k * 3 + 2]? = some (.int .i64 (l[k].h : Nat))
  | x :: l, 0, _ => ⟨rfl, rfl, rfl⟩
  | x :: l, k + 1, h => by
    obtain ⟨h1, h2, h3⟩ := prow_at l k (by simpa using h)
    rw [prow_cons, show (k + 1) * 3 = k * 3 + 3 by omega]
    exact ⟨h1, h2, h3⟩
theorem prow_set : ∀ (l : List (E3 Int Int)) (c : Nat) (h : c < l.length) (y : Int), (prow l).set (c * 3 + 1) (.int .i64 y) = prow (l.modify c (setE y))
  | x :: l, 0, _, y => rfl
  | x :: l, c + 1, h, y => by
    have ih := prow_set l c (by simpa using h) y
    rw [List.modify_succ_cons, prow_cons, prow_cons, ← ih, show (c + 1) * 3 + 1 = c * 3 + 1 + 3 by omega]
    rfl
/-- the document's list at block q: sv its row -/
structure RfL (w : World) (B q : Nat) (sv : Value) (L : List (E3 Int Int)) : Prop where
  box : w.heap[q]? = some (.cells #[sv] 59 (0, 0))
  row : w.ownsRow B 63 3 sv L.length (prow L)
  low : B ≤ q
  apart : sv.ownBlock ≠ some q
def Gq (q : Nat) (sv : Value) (k : Nat) : Prop := k = q ∨ sv.ownBlock = some k
theorem RfL.chg {w w' : World} {B q : Nat} {sv : Value} {L : List (E3 Int Int)} {F : Nat → Prop} (h : RfL w B q sv L) (hc : Chg F w w') (hd : ∀ k, F k → ¬ Gq q sv k) : RfL w' B q sv L :=
  ⟨blk_chg h.box hc fun e => hd q e (.inl rfl), row_same h.row fun k hk => hc.block k (World.ownsRow.lt h.row k hk).2 fun e => hd k e (.inr hk), h.low, h.apart⟩
theorem RfL.below {w w' : World} {B q : Nat} {sv : Value} {L : List (E3 Int Int)} (h : RfL w B q sv L) (hb : Below w.heap.size w w') : RfL w' B q sv L :=
  h.chg (F := fun _ => False) (Chg.of_below hb) (fun _ e => e.elim)
theorem RfL.ge {w : World} {B q : Nat} {sv : Value} {L : List (E3 Int Int)} (h : RfL w B q sv L) : ∀ k, Gq q sv k → B ≤ k ∧ k < w.heap.size := by
  rintro k (rfl | e)
  · exact ⟨h.low, blk_lt h.box⟩
  · exact World.ownsRow.lt h.row k e
theorem RfL.shape {w : World} {B q : Nat} {sv : Value} {L : List (E3 Int Int)} (h : RfL w B q sv L) : ∃ ao c, sv = .slice ao L.length c ∧ L.length ≤ c ∧ c ≤ maxLen ∧ w.cell? ⟨q, 0, none⟩ = some (.slice ao L.length c) := by
  obtain ⟨ao, c, rfl, h1, h2, _⟩ := row_shape h.row
  exact ⟨ao, c, rfl, h1, h2, (cell_one h.box).1⟩
theorem RfL.cells {w : World} {B q : Nat} {ao : Option Addr} {n c : Nat} {L : List (E3 Int Int)} (h : RfL w B q (.slice ao n c) L) (j : Nat) (hj : j < L.length) :
    ∃ g, ao = some ⟨g, 0, none⟩ ∧ w.cell? ⟨g, j * 3, none⟩ = some (.int .i64 L[j].k) ∧ w.cell? ⟨g, j * 3 + 1, none⟩ = some (.int .i64 L[j].v) ∧ w.cell? ⟨g, j * 3 + 2, none⟩ = some (.int .i64 (L[j].h : Nat)) := by
  obtain ⟨ao', c', e, _, _, h3⟩ := row_shape h.row
  cases e
  obtain ⟨g, rfl, _⟩ := h3 (by omega)
  obtain ⟨h1, h2, h3⟩ := prow_at L j hj
  refine ⟨g, rfl, ?_, ?_, ?_⟩
  · rw [World.ownsRow.cellAt h.row _ (by omega)]; exact h1
  · rw [World.ownsRow.cellAt h.row _ (by omega)]; exact h2
  · rw [World.ownsRow.cellAt h.row _ (by omega)]; exact h3
/-- the place that the document tells -/
def plE (L : List (E3 Int Int)) (i : Nat) : Int := if i < L.length then (i : Int) else -1
theorem plE_at {L : List (E3 Int Int)} {i : Nat} (h : i < L.length) : plE L i = i := if_pos h
theorem plE_no {L : List (E3 Int Int)} {i : Nat} (h : L.length ≤ i) : plE L i = -1 := if_neg (by omega)
theorem getE_hit {L : List (E3 Int Int)} (hr : ERise ilt L) (i : Nat) (hi : i < L.length) : getE L L[i].k = i := by
  unfold getE hI cI
  rw [hasE_at ilt_ord hr _ hi, if_pos rfl, cutE_at ilt_ord hr _ hi]
theorem getE_miss {L : List (E3 Int Int)} {k : Int} (h : ∀ j (hj : j < L.length), L[j].k ≠ k) : getE L k = L.length := by
  unfold getE
  rw [if_neg fun e => by obtain ⟨hc, he⟩ := hasE_true.1 e; exact h _ hc he]
set_option maxRecDepth 100000 in
set_option maxHeartbeats 2000000 in
theorem rfind {w : World} {B q : Nat} {sv : Value} {L : List (E3 Int Int)} (h : RfL w B q sv L) (hr : ERise ilt L) (hl : L.length ≤ 9999) (k : Int) :
    Calls Try.prog 35 #[.pointer (some ⟨q, 0, none⟩), .int .i64 k] w fun e w' => e = .returned (.int .i64 (plE L (getE L k))) ∧ w = w' := by
  obtain ⟨ao, c, rfl, h1, h2, h0⟩ := h.shape
  have H := Lib.hid h
  have HR := Lib.hid hr
  unfold maxLen at h2
  clear h hr
  go_enter Try.func35, Try.ntmps35
  go_wp2
  go_loopw [5] (fun i wr => ∃ n : Nat, n ≤ L.length ∧ i = .int .i64 n ∧ (∀ j (hj : j < L.length), j < n → L[j].k ≠ k) ∧ wr = w) (fun i _ => L.length - (intOf i).toNat)
  case atStart => exact ⟨0, Nat.zero_le _, rfl, fun j _ h => by omega, rfl⟩
  case round =>
    obtain ⟨n, hn, rfl, hall, rfl⟩ := hrel
    have Hall := Lib.hid hall
    clear hall
    by_cases hlt : n < L.length
    · obtain ⟨g, rfl, d0, d1, d2⟩ := H.out.cells n hlt
      clear d1 d2
      by_cases hk : L[n].k = k
      · have hg : plE L (getE L k) = n := by rw [← hk, getE_hit HR.out n hlt, plE_at hlt]
        have Hg := Lib.hid hg
        have hk2 : (L[n].k == k) = true := by rw [beq_iff_eq]; exact hk
        clear hk hg
        generalize hy : L[n].k = y at d0 hk2
        clear hy
        go_wp2
        go_ret
        exact ⟨by rw [Hg.out]; rfl, rfl⟩
      · have Hx : Hid (∀ j (hj : j < L.length), j < n + 1 → L[j].k ≠ k) := Lib.hid fun j hj h => by
          rcases Nat.lt_or_ge j n with h2 | h2
          · exact Hall.out j hj h2
          · obtain rfl : j = n := by omega
            exact hk
        have hk2 : (L[n].k == k) = false := by rw [beq_eq_false_iff_ne]; exact hk
        clear hk
        generalize hy : L[n].k = y at d0 hk2
        clear hy
        go_wp2
        go_roundw
        case rel => exact ⟨n + 1, by omega, by go_num, Hx.out, by trivial⟩
        case measure => simp [intOf]; omega
    · have hg : plE L (getE L k) = -1 := by rw [getE_miss fun j hj => Hall.out j hj (by omega), plE_no (Nat.le_refl _)]
      have Hg := Lib.hid hg
      clear hg
      go_wp2
      go_ret
      exact ⟨by rw [Hg.out]; rfl, rfl⟩
set_option maxRecDepth 100000 in
set_option maxHeartbeats 2000000 in
theorem rfound {w : World} {B q : Nat} {sv : Value} {L : List (E3 Int Int)} (h : RfL w B q sv L) (hl : L.length ≤ 9999) (i : Nat) :
    Calls Try.prog 37 #[.int .i64 (tkE L i), .int .i64 (tvE L i), .bool (tbE L i), .pointer (some ⟨q, 0, none⟩), .int .i64 (plE L i)] w fun e w' => e = .returned (.bool true) ∧ w = w' := by
  obtain ⟨ao, c, rfl, h1, h2, h0⟩ := h.shape
  unfold maxLen at h2
  by_cases hi : i < L.length
  · obtain ⟨g, rfl, d0, d1, d2⟩ := h.cells i hi
    rw [tkE_at hi, tvE_at hi, tbE_true.2 hi, plE_at hi]
    clear h d2
    generalize L[i].k = x at *
    generalize L[i].v = y at *
    go_enter Try.func37, Try.ntmps37
    go_wp2
    go_ret
    exact ⟨rfl, rfl⟩
  · have hi : L.length ≤ i := by omega
    rw [show tkE L i = 0 from dif_neg (by omega), show tvE L i = 0 from dif_neg (by omega), tbE_false.2 hi, plE_no hi]
    clear h
    go_enter Try.func37, Try.ntmps37
    go_wp2
    go_ret
    exact ⟨rfl, rfl⟩
end Go.Proofs.Ythpafhimmhacfaa
