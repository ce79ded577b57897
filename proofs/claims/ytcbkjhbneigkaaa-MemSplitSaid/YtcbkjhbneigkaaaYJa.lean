/- Texts joined: SkPl, SkM, SkB, SkBi, SkC, SkD, SkE, SkI, SkP1, SkP2, SkP4, SkP5, SkP6, SkP7, SkP8, SkN, SkP9, SkF, SkK, SkL, SkA, SkStr, SkP3, SkF2, SkG, SkQ. -/
import Derived.Test.YtcbkjhbneigkaaaYBase
import Derived.Test.YtcbkjhbneigkaaaYRow
import Derived.Test.YtcbkjhbneigkaaaYSep
import Derived.Test.YtcbkjhbneigkaaaYJc
import Derived.Test.YtcbkjhbneigkaaaYRdMore
import Derived.StillTailTactics
import Derived.Deep.RegionLaw
import Derived.RangeFuncBox
import Derived.RangeFuncNested
import Derived.RangeFuncBound
import Derived.RangeFuncCalls
import Derived.RangeFuncLeaves
import Derived.Shelf.Abstract
import Derived.WalkKit
import Derived.OwnWalkIn
import Derived.TacticsInMore
import Derived.LoopNIn
import Derived.LoopIn
import Derived.Maps.AppendAt
import Derived.Test.YtcbkjhbneigkaaaYBo
/- A sorted list with towers: plain laws. -/

namespace Go.Proofs.Ytcbkjhbneigkaaa
open Go.RowKit
set_option linter.unusedVariables false
set_option linter.unusedSimpArgs false

/-- a node: its key, value, height, place in the row, block of its next slice -/
structure SE (κ : Type) where
  key : κ
  val : Value
  ht : Nat
  id : Nat
  blk : Nat
section
variable {κ : Type}
/-- the place of the first whose tower reaches level h; 0: none -/
def fid : List (SE κ) → Nat → Nat
  | [], _ => 0
  | e :: R, h => if h < e.ht then e.id else fid R h
theorem fid_yes {e : SE κ} {R : List (SE κ)} {h : Nat} (hh : h < e.ht) : fid (e :: R) h = e.id := by rw [fid, if_pos hh]
theorem fid_no {e : SE κ} {R : List (SE κ)} {h : Nat} (hh : e.ht ≤ h) : fid (e :: R) h = fid R h := by rw [fid, if_neg (by omega)]
theorem fid_cases : ∀ (R : List (SE κ)) (h : Nat), (∃ j, ∃ hj : j < R.length, h < R[j].ht ∧ fid R h = R[j].id ∧ ∀ m (hm : m < R.length), m < j → R[m].ht ≤ h) ∨ (fid R h = 0 ∧ ∀ m (hm : m < R.length), R[m].ht ≤ h)
  | [], h => .inr ⟨rfl, fun m hm => absurd hm (Nat.not_lt_zero _)⟩
  | e :: R, h => by
    by_cases hh : h < e.ht
    · exact .inl ⟨0, by simp, hh, fid_yes hh, fun m _ hm => absurd hm (Nat.not_lt_zero _)⟩
    · have hh : e.ht ≤ h := by omega
      rw [fid_no hh]
      rcases fid_cases R h with ⟨j, hj, h1, h2, h3⟩ | ⟨h1, h2⟩
      · refine .inl ⟨j + 1, by simpa using hj, by simpa using h1, by simpa using h2, fun m hm hmj => ?_⟩
        cases m with
        | zero => exact hh
        | succ m => simpa using h3 m (by simpa using hm) (by omega)
      · refine .inr ⟨h1, fun m hm => ?_⟩
        cases m with
        | zero => exact hh
        | succ m => simpa using h2 m (by simpa using hm)
theorem fid_append_some : ∀ (A R : List (SE κ)) (h : Nat), (∃ e ∈ A, h < e.ht) → fid (A ++ R) h = fid A h
  | [], R, h, hx => by obtain ⟨e, he, _⟩ := hx; cases he
  | e :: A, R, h, hx => by
    rw [List.cons_append]
    by_cases hh : h < e.ht
    · rw [fid_yes hh, fid_yes hh]
    · have hh : e.ht ≤ h := by omega
      rw [fid_no hh, fid_no hh]
      refine fid_append_some A R h ?_
      obtain ⟨e', he, h1⟩ := hx
      rcases List.mem_cons.1 he with rfl | he
      · omega
      · exact ⟨e', he, h1⟩
theorem fid_append_none : ∀ (A R : List (SE κ)) (h : Nat), (∀ e ∈ A, e.ht ≤ h) → fid (A ++ R) h = fid R h
  | [], R, h, _ => rfl
  | e :: A, R, h, hx => by
    rw [List.cons_append, fid_no (hx e (List.mem_cons_self ..))]
    exact fid_append_none A R h fun e' he => hx e' (List.mem_cons_of_mem _ he)

/-- a strict order that tells any two apart -/
structure KOrd (lt : κ → κ → Bool) : Prop where
  irrefl : ∀ a, lt a a = false
  trans : ∀ a b c, lt a b = true → lt b c = true → lt a c = true
  tri : ∀ a b, lt a b = true ∨ a = b ∨ lt b a = true
theorem KOrd.asym {lt : κ → κ → Bool} (o : KOrd lt) {a b : κ} (h : lt a b = true) : lt b a = false := by
  cases k : lt b a with
  | false => rfl
  | true => have := o.trans _ _ _ h k; rw [o.irrefl] at this; cases this
/-- the keys rise -/
def SRise (lt : κ → κ → Bool) : List (SE κ) → Prop
  | [] => True
  | e :: R => (∀ f ∈ R, lt e.key f.key = true) ∧ SRise lt R
/-- how many keys are below k -/
def cutN (lt : κ → κ → Bool) (k : κ) : List (SE κ) → Nat
  | [] => 0
  | e :: R => if lt e.key k = true then cutN lt k R + 1 else 0
theorem cutN_le (lt : κ → κ → Bool) (k : κ) : ∀ S : List (SE κ), cutN lt k S ≤ S.length
  | [] => Nat.le_refl _
  | e :: R => by have := cutN_le lt k R; unfold cutN; split <;> simp only [List.length_cons] <;> omega
theorem cutN_below {lt : κ → κ → Bool} (k : κ) : ∀ (S : List (SE κ)), ∀ e ∈ S.take (cutN lt k S), lt e.key k = true
  | [], e, he => by cases he
  | f :: R, e, he => by
    unfold cutN at he
    by_cases h : lt f.key k = true
    · rw [if_pos h, List.take_succ_cons] at he
      rcases List.mem_cons.1 he with rfl | he
      · exact h
      · exact cutN_below k R e he
    · rw [if_neg h, List.take_zero] at he; cases he
theorem cutN_above {lt : κ → κ → Bool} (o : KOrd lt) (k : κ) : ∀ (S : List (SE κ)), SRise lt S → ∀ e ∈ S.drop (cutN lt k S), lt e.key k = false
  | [], _, e, he => by cases he
  | f :: R, hs, e, he => by
    unfold cutN at he
    by_cases h : lt f.key k = true
    · rw [if_pos h, List.drop_succ_cons] at he
      exact cutN_above o k R hs.2 e he
    · rw [if_neg h, List.drop_zero] at he
      have hf : lt f.key k = false := by simpa using h
      rcases List.mem_cons.1 he with rfl | he
      · exact hf
      · have h1 := hs.1 e he
        cases h2 : lt e.key k with
        | false => rfl
        | true => have := o.trans _ _ _ h1 h2; rw [hf] at this; cases this
/-- where a search for k ends at level h: node i of the head and the sorted ones -/
def PredAt' (lt : κ → κ → Bool) (T : List (SE κ)) (k : κ) (h i : Nat) : Prop :=
  ∃ hi : i < T.length, h < T[i].ht ∧ (i = 0 ∨ lt T[i].key k = true) ∧ ∀ j (hj : j < T.length), i < j → h < T[j].ht → lt T[j].key k = false
end
end Go.Proofs.Ytcbkjhbneigkaaa
/- A sorted list with towers in memory. -/

namespace Go.Proofs.Ytcbkjhbneigkaaa
open Go.RowKit
set_option linter.unusedVariables false
set_option linter.unusedSimpArgs false

section
variable {κ : Type}
def nxs (R : List (SE κ)) (n : Nat) : List Value := (List.range n).map fun h => Value.int .i64 ((fid R h : Nat) : Int)
theorem nxs_len (R : List (SE κ)) (n : Nat) : (nxs R n).length = n := by simp [nxs]
/-- at block p lies a list: v its row of nodes; T: the head and the others, in order -/
structure SK (NT LT : TypeId) (ek : κ → Value) (w : World) (B p : Nat) (v : Value) (T : List (SE κ)) : Prop where
  box : w.heap[p]? = some (.cells #[v] LT (0, 0))
  row : ∃ xs, w.ownsRow B NT 3 v T.length xs ∧ ∀ e ∈ T, xs[3 * e.id]? = some (ek e.key) ∧ xs[3 * e.id + 1]? = some e.val ∧ xs[3 * e.id + 2]? = some (.slice (some ⟨e.blk, 0, none⟩) e.ht e.ht)
  next : ∀ i (hi : i < T.length), w.ownsRow B 3 1 (.slice (some ⟨T[i].blk, 0, none⟩) T[i].ht T[i].ht) T[i].ht (nxs (T.drop (i + 1)) T[i].ht)
  apart : ∀ i j (hi : i < T.length) (hj : j < T.length), T[i].blk = T[j].blk → i = j
  ids : ∀ i j (hi : i < T.length) (hj : j < T.length), T[i].id = T[j].id → i = j
  idlt : ∀ e ∈ T, e.id < T.length
  head : ∃ e S, T = e :: S ∧ e.id = 0 ∧ e.ht = 12
  low : B ≤ p
theorem SK.below {NT LT : TypeId} {ek : κ → Value} {w w' : World} {B p : Nat} {v : Value} {T : List (SE κ)} (h : SK NT LT ek w B p v T) (hb : Below w.heap.size w w') : SK NT LT ek w' B p v T := by
  obtain ⟨xs, hr, hx⟩ := h.row
  exact ⟨(hb.block p (blk_lt h.box)).trans h.box, ⟨xs, row_past hr hb (Nat.le_refl _), hx⟩, fun i hi => row_past (h.next i hi) hb (Nat.le_refl _), h.apart, h.ids, h.idlt, h.head, h.low⟩
theorem cell_one {w : World} {p : Nat} {a : Value} {T : TypeId} (h : w.heap[p]? = some (.cells #[a] T (0, 0))) : w.cell? ⟨p, 0, none⟩ = some a ∧ w.frozen? ⟨p, 0, none⟩ = false := by
  refine ⟨?_, ?_⟩
  · rw [cell_of_row _ _ _ _ _ _ h]; rfl
  · simp [World.frozen?, h]
/-- what is read at node i -/
theorem SK.node {NT LT : TypeId} {ek : κ → Value} {w : World} {B p : Nat} {v : Value} {T : List (SE κ)} (h : SK NT LT ek w B p v T) (i : Nat) (hi : i < T.length) :
    ∃ g c, v = .slice (some ⟨g, 0, none⟩) T.length c ∧ T.length ≤ c ∧ c ≤ maxLen ∧ T[i].id < T.length ∧ w.cell? ⟨p, 0, none⟩ = some (.slice (some ⟨g, 0, none⟩) T.length c) ∧
      w.cell? ⟨g, T[i].id * 3, none⟩ = some (ek T[i].key) ∧ w.cell? ⟨g, T[i].id * 3 + 1, none⟩ = some T[i].val ∧ w.cell? ⟨g, T[i].id * 3 + 2, none⟩ = some (.slice (some ⟨T[i].blk, 0, none⟩) T[i].ht T[i].ht) ∧
      ∀ k, k < T[i].ht → w.cell? ⟨T[i].blk, k, none⟩ = some (.int .i64 (fid (T.drop (i + 1)) k : Nat)) := by
  obtain ⟨xs, hr, hx⟩ := h.row
  obtain ⟨ao, c, rfl, h1, h2, h3⟩ := row_shape hr
  obtain ⟨g, rfl, _, _⟩ := h3 (by omega)
  have hm := List.getElem_mem hi
  obtain ⟨x0, x1, x2⟩ := hx _ hm
  refine ⟨g, c, rfl, h1, h2, h.idlt _ hm, (cell_one h.box).1, ?_, ?_, ?_, fun k hk => ?_⟩
  · have := World.ownsRow.cells hr (g := g) rfl _ _ x0
    rw [add_none, Nat.zero_add, Nat.mul_comm] at this; exact this
  · have := World.ownsRow.cells hr (g := g) rfl _ _ x1
    rw [add_none, Nat.zero_add, Nat.mul_comm 3] at this; exact this
  · have := World.ownsRow.cells hr (g := g) rfl _ _ x2
    rw [add_none, Nat.zero_add, Nat.mul_comm 3] at this; exact this
  · have := World.ownsRow.cellAt (h.next i hi) k (by omega)
    rw [this]
    simp [nxs, hk]
end
end Go.Proofs.Ytcbkjhbneigkaaa
/- (*skip.List).before: where a search ends at each level. -/

namespace Go.Proofs.Ytcbkjhbneigkaaa
open Go.RowKit
set_option linter.unusedVariables false
set_option linter.unusedSimpArgs false

def ilt (a b : Int) : Bool := decide (a < b)
theorem ilt_ord : KOrd ilt := ⟨fun a => by simp [ilt], fun a b c h1 h2 => by simp [ilt] at *; omega, fun a b => by simp [ilt]; omega⟩
section
variable {κ : Type}
/-- the head is below all -/
def TRise (lt : κ → κ → Bool) (T : List (SE κ)) : Prop := ∀ i j (hi : i < T.length) (hj : j < T.length), 0 < i → i < j → lt T[i].key T[j].key = true
def bvals (bs : List Nat) : List Value := bs.map fun n => Value.int .i64 ((n : Nat) : Int)
/-- the places that were found: one for each of the levels from n on -/
def Found (lt : κ → κ → Bool) (T : List (SE κ)) (k : κ) (n : Nat) (bs : List Nat) : Prop :=
  bs.length + n = 12 ∧ ∀ h (hh : h < bs.length), ∃ i, ∃ hi : i < T.length, PredAt' lt T k (n + h) i ∧ bs[h] = T[i].id
theorem Found.cons {lt : κ → κ → Bool} {T : List (SE κ)} {k : κ} {m i : Nat} {bs : List Nat} (h : Found lt T k (m + 1) bs) (hi : i < T.length) (hp : PredAt' lt T k m i) : Found lt T k m (T[i].id :: bs) := by
  refine ⟨by rw [List.length_cons]; have := h.1; omega, fun x hx => ?_⟩
  cases x with
  | zero => exact ⟨i, hi, hp, rfl⟩
  | succ x =>
    obtain ⟨j, hj, h1, h2⟩ := h.2 x (by simpa using hx)
    exact ⟨j, hj, by rw [show m + (x + 1) = m + 1 + x by omega]; exact h1, by simpa using h2⟩
theorem predAt_end {lt : κ → κ → Bool} (o : KOrd lt) {T : List (SE κ)} (hr : TRise lt T) {k : κ} {m i : Nat} (hi : i < T.length) (hh : m < T[i].ht) (hb : i = 0 ∨ lt T[i].key k = true)
    (hx : (∃ j, ∃ hj : j < T.length, i < j ∧ lt T[j].key k = false ∧ ∀ x (hx : x < T.length), i < x → x < j → T[x].ht ≤ m) ∨ (∀ x (hx : x < T.length), i < x → T[x].ht ≤ m)) : PredAt' lt T k m i := by
  refine ⟨hi, hh, hb, fun x hxl hix hmx => ?_⟩
  rcases hx with ⟨j, hj, hij, hkj, hbet⟩ | hall
  · by_cases h1 : x < j
    · have := hbet x hxl hix h1; omega
    · by_cases h2 : x = j
      · subst h2; exact hkj
      · have h3 := hr j x hj hxl (by omega) (by omega)
        cases h4 : lt T[x].key k with
        | false => rfl
        | true => have := o.trans _ _ _ h3 h4; rw [hkj] at this; cases this
  · have := hall x hxl hix; omega
/-- the next of node i at level m, in places of T -/
theorem next_cases (T : List (SE κ)) (i m : Nat) (hi : i < T.length) :
    (∃ j, ∃ hj : j < T.length, i < j ∧ m < T[j].ht ∧ fid (T.drop (i + 1)) m = T[j].id ∧ ∀ x (hx : x < T.length), i < x → x < j → T[x].ht ≤ m) ∨ (fid (T.drop (i + 1)) m = 0 ∧ ∀ x (hx : x < T.length), i < x → T[x].ht ≤ m) := by
  rcases fid_cases (T.drop (i + 1)) m with ⟨j, hj, h1, h2, h3⟩ | ⟨h1, h2⟩
  · rw [List.length_drop] at hj
    rw [List.getElem_drop] at h1 h2
    refine .inl ⟨i + 1 + j, by omega, by omega, h1, h2, fun x hx hix hxj => ?_⟩
    have := h3 (x - (i + 1)) (by rw [List.length_drop]; omega) (by omega)
    rw [List.getElem_drop] at this
    have e : i + 1 + (x - (i + 1)) = x := by omega
    simp only [e] at this
    exact this
  · refine .inr ⟨h1, fun x hx hix => ?_⟩
    have := h2 (x - (i + 1)) (by rw [List.length_drop]; omega)
    rw [List.getElem_drop] at this
    have e : i + 1 + (x - (i + 1)) = x := by omega
    simp only [e] at this
    exact this
end
end Go.Proofs.Ytcbkjhbneigkaaa
/- The contract of before, at its instances. -/

namespace Go.Proofs.Ytcbkjhbneigkaaa
open Go.RowKit
set_option linter.unusedVariables false
set_option linter.unusedSimpArgs false

theorem heap_set_list {w : World} {q : Nat} {l : List Value} {T : TypeId} (h : w.heap[q]? = some (.cells l.toArray T (0, 0))) (i : Nat) (v : Value) : (w.setCell ⟨q, i, none⟩ v).heap[q]? = some (.cells (l.set i v).toArray T (0, 0)) := by
  simp only [World.setCell, Array.getElem?_modify, if_true, h, Option.map_some]
  simp
theorem cell_list {w : World} {q i : Nat} {l : List Value} {T : TypeId} {u : Value} (h : w.heap[q]? = some (.cells l.toArray T (0, 0))) (hu : l[i]? = some u) : w.cell? ⟨q, i, none⟩ = some u ∧ w.frozen? ⟨q, i, none⟩ = false := by
  refine ⟨?_, ?_⟩
  · rw [cell_of_row _ _ _ _ _ _ h]; simpa using hu
  · simp [World.frozen?, h]
theorem bvals_set (l : List Nat) (m x : Nat) : bvals (l.set m x) = (bvals l).set m (.int .i64 (x : Nat)) := by simp [bvals]
def BefOut {κ : Type} (lt : κ → κ → Bool) (T : List (SE κ)) (k : κ) (w : World) (e : Ending) (w' : World) : Prop :=
  ∃ bs : List Nat, e = .returned (.agg (bvals bs).toArray) ∧ Found lt T k 0 bs ∧ Below w.heap.size w w'
theorem level_room {κ : Type} {NT LT : TypeId} {ek : κ → Value} {w : World} {B p : Nat} {v : Value} {T : List (SE κ)} (h : SK NT LT ek w B p v T) : ∃ h0 : 0 < T.length, T[0].ht = 12 ∧ T[0].id = 0 := by
  obtain ⟨e, S, rfl, h1, h2⟩ := h.head
  exact ⟨by simp, h2, h1⟩

end Go.Proofs.Ytcbkjhbneigkaaa
/- before at one value; ceil. -/

namespace Go.Proofs.Ytcbkjhbneigkaaa
open Go.RowKit
set_option linter.unusedVariables false
set_option linter.unusedSimpArgs false

section
variable {κ : Type} {lt : κ → κ → Bool} {T : List (SE κ)} {k : κ}
theorem predAt_unique {m i j : Nat} (hi : PredAt' lt T k m i) (hj : PredAt' lt T k m j) : i = j := by
  obtain ⟨i1, i2, i3, i4⟩ := hi
  obtain ⟨j1, j2, j3, j4⟩ := hj
  rcases Nat.lt_trichotomy i j with h | h | h
  · have := i4 j j1 h j2
    rcases j3 with h0 | h0
    · omega
    · rw [h0] at this; cases this
  · exact h
  · have := j4 i i1 h i2
    rcases i3 with h0 | h0
    · omega
    · rw [h0] at this; cases this
theorem predAt_some (m : Nat) : ∀ d i, ∀ (hi : i < T.length), T.length - i ≤ d → m < T[i].ht → (i = 0 ∨ lt T[i].key k = true) → ∃ j, PredAt' lt T k m j
  | 0, i, hi, hd, _, _ => by omega
  | d + 1, i, hi, hd, h1, h2 => by
    by_cases hx : ∃ j, ∃ hj : j < T.length, i < j ∧ m < T[j].ht ∧ lt T[j].key k = true
    · obtain ⟨j, hj, hij, h3, h4⟩ := hx
      exact predAt_some m d j hj (by omega) h3 (.inr h4)
    · refine ⟨i, hi, h1, h2, fun j hj hij h3 => ?_⟩
      cases h4 : lt T[j].key k with
      | false => rfl
      | true => exact absurd ⟨j, hj, hij, h3, h4⟩ hx
theorem found_unique {bs cs : List Nat} (h : Found lt T k 0 bs) (g : Found lt T k 0 cs) : bs = cs := by
  refine List.ext_getElem (by have := h.1; have := g.1; omega) fun x h1 h2 => ?_
  obtain ⟨i, hi, p1, e1⟩ := h.2 x h1
  obtain ⟨j, hj, p2, e2⟩ := g.2 x h2
  obtain rfl := predAt_unique p1 p2
  rw [e1, e2]
theorem found_some (h0 : 0 < T.length) (hh : T[0].ht = 12) : ∀ n, n ≤ 12 → ∃ bs, Found lt T k n bs := by
  intro n hn
  obtain ⟨d, hd⟩ : ∃ d, n + d = 12 := ⟨12 - n, by omega⟩
  induction d generalizing n with
  | zero => exact ⟨[], by simp; omega, fun h hx => absurd hx (by simp)⟩
  | succ d ih =>
    obtain ⟨bs, hb⟩ := ih (n + 1) (by omega) (by omega)
    obtain ⟨i, hp⟩ := predAt_some (lt := lt) (T := T) (k := k) n T.length 0 h0 (by omega) (by omega) (.inl rfl)
    have hp2 := hp
    obtain ⟨hi, _⟩ := hp2
    exact ⟨_, hb.cons hi hp⟩
end
/-- where the keys that are not below k begin -/
def CutAt {κ : Type} (lt : κ → κ → Bool) (T : List (SE κ)) (k : κ) (c : Nat) : Prop := 0 < c ∧ c ≤ T.length ∧ (∀ j (hj : j < T.length), 0 < j → j < c → lt T[j].key k = true) ∧ (∀ j (hj : j < T.length), c ≤ j → lt T[j].key k = false)
theorem twelve {bs : List Nat} (h : bs.length = 12) : ∃ b0 b1 b2 b3 b4 b5 b6 b7 b8 b9 b10 b11, bs = [b0, b1, b2, b3, b4, b5, b6, b7, b8, b9, b10, b11] := by
  cases bs with
  | nil => simp at h
  | cons b0 bs =>
  cases bs with
  | nil => simp at h
  | cons b1 bs =>
  cases bs with
  | nil => simp at h
  | cons b2 bs =>
  cases bs with
  | nil => simp at h
  | cons b3 bs =>
  cases bs with
  | nil => simp at h
  | cons b4 bs =>
  cases bs with
  | nil => simp at h
  | cons b5 bs =>
  cases bs with
  | nil => simp at h
  | cons b6 bs =>
  cases bs with
  | nil => simp at h
  | cons b7 bs =>
  cases bs with
  | nil => simp at h
  | cons b8 bs =>
  cases bs with
  | nil => simp at h
  | cons b9 bs =>
  cases bs with
  | nil => simp at h
  | cons b10 bs =>
  cases bs with
  | nil => simp at h
  | cons b11 bs =>
  cases bs with
  | cons x bs => simp at h
  | nil => exact ⟨_, _, _, _, _, _, _, _, _, _, _, _, rfl⟩
theorem pred_zero {κ : Type} {lt : κ → κ → Bool} {T : List (SE κ)} {k : κ} {c i : Nat} (hc : CutAt lt T k c) (hht : ∀ j (hj : j < T.length), 0 < T[j].ht) (hp : PredAt' lt T k 0 i) : i + 1 = c := by
  obtain ⟨c1, c2, c3, c4⟩ := hc
  obtain ⟨i1, i2, i3, i4⟩ := hp
  rcases Nat.lt_trichotomy (i + 1) c with h | h | h
  · have := i4 (c - 1) (by omega) (by omega) (hht _ _)
    rw [c3 (c - 1) (by omega) (by omega) (by omega)] at this; cases this
  · exact h
  · rcases i3 with h0 | h0
    · omega
    · rw [c4 i i1 (by omega)] at h0; cases h0
theorem next_zero {κ : Type} {T : List (SE κ)} (c : Nat) (hht : ∀ j (hj : j < T.length), 0 < T[j].ht) : fid (T.drop c) 0 = if h : c < T.length then T[c].id else 0 := by
  by_cases h : c < T.length
  · rw [dif_pos h, List.drop_eq_getElem_cons h, fid_yes (hht c h)]
  · rw [dif_neg h, List.drop_of_length_le (by omega)]; rfl
end Go.Proofs.Ytcbkjhbneigkaaa
/- find, Len, tell. -/

namespace Go.Proofs.Ytcbkjhbneigkaaa
open Go.RowKit
set_option linter.unusedVariables false
set_option linter.unusedSimpArgs false

end Go.Proofs.Ytcbkjhbneigkaaa
/- Ceil, Height. -/

namespace Go.Proofs.Ytcbkjhbneigkaaa
open Go.RowKit
set_option linter.unusedVariables false
set_option linter.unusedSimpArgs false

/-- node i, as it is told -/
def TellIs (T : List (SE Int)) (i : Nat) (k y : Int) (z : Bool) : Prop := ∃ hi : i < T.length, T[i].key = k ∧ T[i].val = .int .i64 y ∧ ((T[i].id : Int) != 0) = z
end Go.Proofs.Ytcbkjhbneigkaaa
/- A node is put in between: plain laws. -/

namespace Go.Proofs.Ytcbkjhbneigkaaa
open Go.RowKit
set_option linter.unusedVariables false
set_option linter.unusedSimpArgs false

section
variable {κ : Type}
def insT (T : List (SE κ)) (c : Nat) (n : SE κ) : List (SE κ) := T.take c ++ n :: T.drop c
/-- what stands behind node i of the old ones -/
def tailI (T : List (SE κ)) (c : Nat) (n : SE κ) (i : Nat) : List (SE κ) := if i < c then (T.take c).drop (i + 1) ++ n :: T.drop c else T.drop (i + 1)
theorem drop_split (T : List (SE κ)) {i c : Nat} (h : i + 1 ≤ c) (hc : c ≤ T.length) : T.drop (i + 1) = (T.take c).drop (i + 1) ++ T.drop c := by
  have h1 : T.drop (i + 1) = (T.take c ++ T.drop c).drop (i + 1) := by rw [List.take_append_drop]
  rw [h1, List.drop_append_of_le_length (by rw [List.length_take]; omega)]
theorem mid_mem {T : List (SE κ)} {i c : Nat} {e : SE κ} (hc : c ≤ T.length) (he : e ∈ (T.take c).drop (i + 1)) : ∃ j, ∃ hj : j < T.length, i < j ∧ j < c ∧ T[j] = e := by
  obtain ⟨m, hm, rfl⟩ := List.getElem_of_mem he
  rw [List.length_drop, List.length_take] at hm
  refine ⟨i + 1 + m, by omega, by omega, by omega, ?_⟩
  simp
theorem ins_none {T : List (SE κ)} {i c h : Nat} {n : SE κ} (hi : i < c) (hc : c ≤ T.length) (hx : ∀ j (hj : j < T.length), i < j → j < c → T[j].ht ≤ h) :
    fid (T.drop (i + 1)) h = fid (T.drop c) h ∧ fid (tailI T c n i) h = if h < n.ht then n.id else fid (T.drop c) h := by
  have hall : ∀ e ∈ (T.take c).drop (i + 1), e.ht ≤ h := fun e he => by
    obtain ⟨j, hj, h1, h2, rfl⟩ := mid_mem hc he
    exact hx j hj h1 h2
  unfold tailI
  rw [if_pos hi, drop_split T hi hc, fid_append_none _ _ _ hall, fid_append_none _ _ _ hall]
  exact ⟨rfl, rfl⟩
theorem ins_some {T : List (SE κ)} {i c h : Nat} {n : SE κ} (hi : i < c) (hc : c ≤ T.length) (hx : ∃ j, ∃ hj : j < T.length, i < j ∧ j < c ∧ h < T[j].ht) :
    fid (tailI T c n i) h = fid (T.drop (i + 1)) h := by
  obtain ⟨j, hj, h1, h2, h3⟩ := hx
  have hex : ∃ e ∈ (T.take c).drop (i + 1), h < e.ht := by
    refine ⟨T[j], ?_, h3⟩
    rw [List.mem_iff_getElem]
    refine ⟨j - (i + 1), by rw [List.length_drop, List.length_take]; omega, ?_⟩
    simp [show i + 1 + (j - (i + 1)) = j by omega]
  unfold tailI
  rw [if_pos hi, drop_split T hi hc, fid_append_some _ _ _ hex, fid_append_some _ _ _ hex]
theorem insT_len (T : List (SE κ)) (c : Nat) (n : SE κ) (hc : c ≤ T.length) : (insT T c n).length = T.length + 1 := by
  unfold insT
  rw [List.length_append, List.length_cons, List.length_take, List.length_drop]; omega
/-- behind the new one, and behind the old ones in their new places -/
theorem insT_drop_new (T : List (SE κ)) (c : Nat) (n : SE κ) (hc : c ≤ T.length) : (insT T c n).drop (c + 1) = T.drop c := by
  unfold insT
  rw [show c + 1 = (T.take c).length + 1 by rw [List.length_take]; omega, List.drop_append, List.drop_of_length_le (by omega)]
  simp
theorem insT_drop_old (T : List (SE κ)) (c : Nat) (n : SE κ) (hc : c ≤ T.length) (i : Nat) : (insT T c n).drop ((if i < c then i else i + 1) + 1) = tailI T c n i := by
  unfold tailI
  by_cases h : i < c
  · rw [if_pos h, if_pos h]
    unfold insT
    rw [List.drop_append_of_le_length (by rw [List.length_take]; omega)]
  · rw [if_neg h, if_neg h, show i + 1 + 1 = c + 1 + (i + 1 - c) by omega, ← List.drop_drop, insT_drop_new T c n hc, List.drop_drop, show c + (i + 1 - c) = i + 1 by omega]
theorem insT_get_new (T : List (SE κ)) (c : Nat) (n : SE κ) (hc : c ≤ T.length) : (insT T c n)[c]? = some n := by
  unfold insT
  rw [List.getElem?_append_right (by rw [List.length_take]; omega), List.length_take, show c - min c T.length = 0 by omega]; rfl
theorem insT_get_old (T : List (SE κ)) (c : Nat) (n : SE κ) (hc : c ≤ T.length) (i : Nat) : (insT T c n)[if i < c then i else i + 1]? = T[i]? := by
  unfold insT
  by_cases h : i < c
  · rw [if_pos h, List.getElem?_append_left (by rw [List.length_take]; omega), List.getElem?_take, if_pos h]
  · rw [if_neg h, List.getElem?_append_right (by rw [List.length_take]; omega), List.length_take, show i + 1 - min c T.length = (i - c) + 1 by omega, List.getElem?_cons_succ, List.getElem?_drop, show c + (i - c) = i by omega]
end
end Go.Proofs.Ytcbkjhbneigkaaa
/- Put: a bad height; a key that is there. -/

namespace Go.Proofs.Ytcbkjhbneigkaaa
open Go.RowKit
set_option linter.unusedVariables false
set_option linter.unusedSimpArgs false

section
variable {κ : Type}
def setV (e : SE κ) (x : Value) : SE κ := { e with val := x }
theorem fid_setV (x : Value) : ∀ (R : List (SE κ)) (c h : Nat), fid (R.modify c (setV · x)) h = fid R h
  | [], c, h => by cases c <;> rfl
  | e :: R, 0, h => rfl
  | e :: R, c + 1, h => by
    rw [List.modify_succ_cons]
    unfold fid
    rw [fid_setV x R c h]
theorem row_ne3 {w : World} {B sz n q : Nat} {e T : TypeId} {v : Value} {xs : List Value} {cs : Array Value} {fr : Nat × Nat} (h : w.ownsRow B e sz v n xs) (hq : w.heap[q]? = some (.cells cs T fr)) (hT : T ≠ e) : v.ownBlock ≠ some q := by
  rcases h.2 with ⟨rfl, _⟩ | ⟨g, cap, cur, rfl, _, hh, _⟩
  · intro h; cases h
  · intro h
    obtain rfl : g = q := by simpa [Value.ownBlock] using h
    rw [hh] at hq
    simp only [Option.some.injEq, Obj.cells.injEq] at hq
    exact hT hq.2.1.symm
theorem row_two {w : World} {B1 B2 s1 s2 n1 n2 : Nat} {e1 e2 : TypeId} {v1 v2 : Value} {xs1 xs2 : List Value} (h1 : w.ownsRow B1 e1 s1 v1 n1 xs1) (h2 : w.ownsRow B2 e2 s2 v2 n2 xs2) (hne : e1 ≠ e2) : ∀ k, v1.ownBlock = some k → v2.ownBlock = some k → False := by
  intro k hk hk2
  rcases h1.2 with ⟨rfl, _⟩ | ⟨g, cap, cur, rfl, _, hh, _⟩
  · cases hk
  · rcases h2.2 with ⟨rfl, _⟩ | ⟨g', cap', cur', rfl, _, hh', _⟩
    · cases hk2
    · simp only [Value.ownBlock, Option.some.injEq] at hk hk2
      subst hk; subst hk2
      rw [hh] at hh'
      simp only [Option.some.injEq, Obj.cells.injEq] at hh'
      exact hne hh'.2.1
end
end Go.Proofs.Ytcbkjhbneigkaaa
/- A value is set anew. -/

namespace Go.Proofs.Ytcbkjhbneigkaaa
open Go.RowKit
set_option linter.unusedVariables false
set_option linter.unusedSimpArgs false
section
variable {κ : Type}
def hid (e : SE κ) : Nat × Nat := (e.ht, e.id)
theorem fid_congr : ∀ (R R' : List (SE κ)) (h : Nat), R.map hid = R'.map hid → fid R h = fid R' h
  | [], [], _, _ => rfl
  | [], _ :: _, _, e => by cases e
  | _ :: _, [], _, e => by cases e
  | a :: R, b :: R', h, e => by
    simp only [List.map_cons, List.cons.injEq] at e
    have h1 := e.1
    unfold hid at h1
    simp only [Prod.mk.injEq] at h1
    unfold fid
    rw [h1.1, h1.2, fid_congr R R' h e.2]
theorem modify_hid (T : List (SE κ)) (c : Nat) (x : Value) : (T.modify c (setV · x)).map hid = T.map hid := by
  refine List.ext_getElem (by simp) fun i h1 h2 => ?_
  simp only [List.getElem_map, List.getElem_modify]
  split <;> rfl
theorem modify_at (T : List (SE κ)) (c : Nat) (x : Value) (i : Nat) (hi : i < (T.modify c (setV · x)).length) : ∃ h : i < T.length, (T.modify c (setV · x))[i].key = T[i].key ∧ (T.modify c (setV · x))[i].ht = T[i].ht ∧ (T.modify c (setV · x))[i].id = T[i].id ∧ (T.modify c (setV · x))[i].blk = T[i].blk ∧ (T.modify c (setV · x))[i].val = if c = i then x else T[i].val := by
  have h : i < T.length := by simpa using hi
  refine ⟨h, ?_⟩
  rw [List.getElem_modify]
  by_cases e : c = i
  · rw [if_pos e, if_pos e]; exact ⟨rfl, rfl, rfl, rfl, rfl⟩
  · rw [if_neg e, if_neg e]; exact ⟨rfl, rfl, rfl, rfl, rfl⟩
theorem SK.setVal {NT LT : TypeId} {ek : κ → Value} {w : World} {B p g cv : Nat} {T : List (SE κ)} (h : SK NT LT ek w B p (.slice (some ⟨g, 0, none⟩) T.length cv) T) (hN : NT ≠ 3) (hL : LT ≠ NT) (c : Nat) (hc : c < T.length) (x : Value) :
    SK NT LT ek (w.setCell ⟨g, T[c].id * 3 + 1, none⟩ x) B p (.slice (some ⟨g, 0, none⟩) T.length cv) (T.modify c (setV · x)) := by
  obtain ⟨xs, hr, hx⟩ := h.row
  have hlen : (T.modify c (setV · x)).length = T.length := by simp
  have hxl : xs.length = T.length * 3 := hr.1
  have hcid := h.idlt _ (List.getElem_mem hc)
  refine ⟨?_, ⟨xs.set (T[c].id * 3 + 1) x, ?_, ?_⟩, ?_, ?_, ?_, ?_, ?_, h.low⟩
  · exact blk_chg h.box (Chg.set w g _ x) (fun e => row_ne3 hr h.box hL (by rw [e]; rfl))
  · rw [hlen]; exact (World.ownsRow.stored hr (T[c].id * 3 + 1) x).1
  · intro e he
    obtain ⟨i, hi, rfl⟩ := List.getElem_of_mem he
    obtain ⟨hiT, m1, m2, m3, m4, m5⟩ := modify_at T c x i hi
    obtain ⟨x0, x1, x2⟩ := hx _ (List.getElem_mem hiT)
    rw [m1, m2, m3, m4, m5]
    by_cases e : c = i
    · subst e
      rw [if_pos rfl]
      refine ⟨?_, ?_, ?_⟩
      · rw [List.getElem?_set_ne (by omega)]; exact x0
      · rw [Nat.mul_comm 3, List.getElem?_set_self (by omega)]
      · rw [List.getElem?_set_ne (by omega)]; exact x2
    · rw [if_neg e]
      have hne : T[c].id ≠ T[i].id := fun he => e (h.ids c i hc hiT he)
      refine ⟨?_, ?_, ?_⟩
      · rw [List.getElem?_set_ne (by omega)]; exact x0
      · rw [List.getElem?_set_ne (by omega)]; exact x1
      · rw [List.getElem?_set_ne (by omega)]; exact x2
  · intro i hi
    obtain ⟨hiT, m1, m2, m3, m4, m5⟩ := modify_at T c x i hi
    have hn : nxs ((T.modify c (setV · x)).drop (i + 1)) (T.modify c (setV · x))[i].ht = nxs (T.drop (i + 1)) T[i].ht := by
      unfold nxs
      rw [m2]
      refine List.map_congr_left fun h _ => ?_
      rw [fid_congr _ (T.drop (i + 1)) h (by rw [List.map_drop, List.map_drop, modify_hid])]
    rw [hn, m2, m4]
    have hnx := h.next i hiT
    exact row_same hnx fun k hk => (Chg.set w g _ x).block k (World.ownsRow.lt hnx k hk).2 (fun e => row_two hr hnx hN k (by rw [e]; rfl) hk)
  · intro i j hi hj e
    obtain ⟨hiT, _, _, _, m4, _⟩ := modify_at T c x i hi
    obtain ⟨hjT, _, _, _, n4, _⟩ := modify_at T c x j hj
    exact h.apart i j hiT hjT (by rw [← m4, e, n4])
  · intro i j hi hj e
    obtain ⟨hiT, _, _, m3, _, _⟩ := modify_at T c x i hi
    obtain ⟨hjT, _, _, n3, _, _⟩ := modify_at T c x j hj
    exact h.ids i j hiT hjT (by rw [← m3, e, n3])
  · intro e he
    obtain ⟨i, hi, rfl⟩ := List.getElem_of_mem he
    obtain ⟨hiT, _, _, m3, _, _⟩ := modify_at T c x i hi
    rw [m3, hlen]; exact h.idlt _ (List.getElem_mem hiT)
  · obtain ⟨e, S, hT, h1, h2⟩ := h.head
    subst hT
    cases c with
    | zero => exact ⟨setV e x, S, rfl, h1, h2⟩
    | succ c => exact ⟨e, S.modify c (setV · x), rfl, h1, h2⟩
end
end Go.Proofs.Ytcbkjhbneigkaaa
/- While a new node is put in: the next rows, level by level. -/

namespace Go.Proofs.Ytcbkjhbneigkaaa
open Go.RowKit
set_option linter.unusedVariables false
set_option linter.unusedSimpArgs false
section
variable {κ : Type}
/-- the next row of old node i when the levels below j are done -/
def nxJ (T : List (SE κ)) (c : Nat) (n : SE κ) (j i ht : Nat) : List Value := (List.range ht).map fun h => Value.int .i64 (((if h < j then fid (tailI T c n i) h else fid (T.drop (i + 1)) h : Nat) : Nat) : Int)
theorem nxJ_zero (T : List (SE κ)) (c : Nat) (n : SE κ) (i ht : Nat) : nxJ T c n 0 i ht = nxs (T.drop (i + 1)) ht := by
  unfold nxJ nxs
  refine List.map_congr_left fun h _ => ?_
  rw [if_neg (by omega)]
theorem nxJ_len (T : List (SE κ)) (c : Nat) (n : SE κ) (j i ht : Nat) : (nxJ T c n j i ht).length = ht := by simp [nxJ]
theorem nxJ_at (T : List (SE κ)) (c : Nat) (n : SE κ) (j i ht h : Nat) (hh : h < ht) : (nxJ T c n j i ht)[h]? = some (Value.int .i64 (((if h < j then fid (tailI T c n i) h else fid (T.drop (i + 1)) h : Nat) : Nat) : Int)) := by
  unfold nxJ
  rw [List.getElem?_map, List.getElem?_range hh]; rfl
/-- at the end of it -/
theorem nxJ_end (T : List (SE κ)) (c : Nat) (n : SE κ) (i ht : Nat) (hc : c ≤ T.length) : nxJ T c n n.ht i ht = nxs (tailI T c n i) ht := by
  unfold nxJ nxs
  refine List.map_congr_left fun h _ => ?_
  by_cases hh : h < n.ht
  · rw [if_pos hh]
  · rw [if_neg hh]
    by_cases hi : i < c
    · by_cases hx : ∃ j, ∃ hj : j < T.length, i < j ∧ j < c ∧ h < T[j].ht
      · rw [ins_some hi hc hx]
      · obtain ⟨e1, e2⟩ := ins_none (n := n) (h := h) hi hc (fun j hj h1 h2 => by
          rcases Nat.lt_or_ge h T[j].ht with h3 | h3
          · exact absurd ⟨j, hj, h1, h2, h3⟩ hx
          · exact h3)
        rw [e1, e2, if_neg hh]
    · unfold tailI; rw [if_neg hi]
/-- one level more: just the node at which the search ended has another next -/
theorem nxJ_step_other (T : List (SE κ)) (c : Nat) (n : SE κ) (j i ht : Nat) (h : fid (tailI T c n i) j = fid (T.drop (i + 1)) j) : nxJ T c n (j + 1) i ht = nxJ T c n j i ht := by
  unfold nxJ
  refine List.map_congr_left fun x _ => ?_
  by_cases e : x = j
  · subst e; rw [if_pos (by omega), if_neg (by omega), h]
  · by_cases hx : x < j
    · rw [if_pos (by omega), if_pos hx]
    · rw [if_neg (by omega), if_neg hx]
theorem nxJ_step_set (T : List (SE κ)) (c : Nat) (n : SE κ) (j i ht : Nat) (hj : j < ht) : nxJ T c n (j + 1) i ht = (nxJ T c n j i ht).set j (.int .i64 (fid (tailI T c n i) j : Nat)) := by
  refine List.ext_getElem? fun x => ?_
  by_cases hx : x < ht
  · rw [nxJ_at T c n (j + 1) i ht x hx]
    by_cases e : x = j
    · subst e
      rw [List.getElem?_set_self (by rw [nxJ_len]; exact hx), if_pos (by omega)]
    · rw [List.getElem?_set_ne (fun h => e h.symm), nxJ_at T c n j i ht x hx]
      by_cases hxj : x < j
      · rw [if_pos (by omega), if_pos hxj]
      · rw [if_neg (by omega), if_neg hxj]
  · rw [List.getElem?_eq_none (by rw [nxJ_len]; omega), List.getElem?_eq_none (by rw [List.length_set, nxJ_len]; omega)]
end
end Go.Proofs.Ytcbkjhbneigkaaa
/- One level of Put. -/

namespace Go.Proofs.Ytcbkjhbneigkaaa
open Go.RowKit
set_option linter.unusedVariables false
set_option linter.unusedSimpArgs false
section
variable {κ : Type}
theorem nxJ_high (T : List (SE κ)) (c : Nat) (n : SE κ) (j i ht : Nat) (hj : ht ≤ j) : nxJ T c n (j + 1) i ht = nxJ T c n j i ht := by
  unfold nxJ
  refine List.map_congr_left fun x hx => ?_
  have := List.mem_range.1 hx
  rw [if_pos (by omega), if_pos (by omega)]
/-- the list while the levels below j are done -/
structure SKJ (NT LT : TypeId) (ek : κ → Value) (w : World) (B p : Nat) (v : Value) (T : List (SE κ)) (c : Nat) (n : SE κ) (j : Nat) : Prop where
  box : w.heap[p]? = some (.cells #[v] LT (0, 0))
  row : ∃ xs, w.ownsRow B NT 3 v T.length xs ∧ ∀ e ∈ T, xs[3 * e.id]? = some (ek e.key) ∧ xs[3 * e.id + 1]? = some e.val ∧ xs[3 * e.id + 2]? = some (.slice (some ⟨e.blk, 0, none⟩) e.ht e.ht)
  next : ∀ i (hi : i < T.length), w.ownsRow B 3 1 (.slice (some ⟨T[i].blk, 0, none⟩) T[i].ht T[i].ht) T[i].ht (nxJ T c n j i T[i].ht)
theorem SK.toJ {NT LT : TypeId} {ek : κ → Value} {w : World} {B p : Nat} {v : Value} {T : List (SE κ)} (h : SK NT LT ek w B p v T) (c : Nat) (n : SE κ) : SKJ NT LT ek w B p v T c n 0 :=
  ⟨h.box, h.row, fun i hi => by rw [nxJ_zero]; exact h.next i hi⟩
theorem SKJ.below {NT LT : TypeId} {ek : κ → Value} {w w' : World} {B p : Nat} {v : Value} {T : List (SE κ)} {c : Nat} {n : SE κ} {j : Nat} (h : SKJ NT LT ek w B p v T c n j) (hb : Below w.heap.size w w') : SKJ NT LT ek w' B p v T c n j := by
  obtain ⟨xs, hr, hx⟩ := h.row
  exact ⟨(hb.block p (blk_lt h.box)).trans h.box, ⟨xs, row_past hr hb (Nat.le_refl _), hx⟩, fun i hi => row_past (h.next i hi) hb (Nat.le_refl _)⟩
/-- the store at level j: at the node where the search ended -/
theorem SKJ.step {lt : κ → κ → Bool} {k : κ} {NT LT : TypeId} {ek : κ → Value} {w : World} {B p : Nat} {v : Value} {T : List (SE κ)} {c : Nat} {n : SE κ} {j i : Nat} (h : SKJ NT LT ek w B p v T c n j)
    (hN : NT ≠ 3) (hL : LT ≠ 3) (hap : ∀ i j (hi : i < T.length) (hj : j < T.length), T[i].blk = T[j].blk → i = j) (hc : CutAt lt T k c) (hj : j < n.ht) (hi : i < T.length) (hp : PredAt' lt T k j i) :
    SKJ NT LT ek (w.setCell ⟨T[i].blk, j, none⟩ (.int .i64 (n.id : Nat))) B p v T c n (j + 1) := by
  obtain ⟨_, hij, hib, hia⟩ := hp
  obtain ⟨c1, c2, c3, c4⟩ := hc
  have hic : i < c := by
    rcases Nat.lt_or_ge i c with h1 | h1
    · exact h1
    · rcases hib with h2 | h2
      · omega
      · rw [c4 i hi h1] at h2; cases h2
  have hmid : ∀ x (hx : x < T.length), i < x → x < c → T[x].ht ≤ j := fun x hx h1 h2 => by
    rcases Nat.lt_or_ge j T[x].ht with h3 | h3
    · have := hia x hx h1 h3
      rw [c3 x hx (by omega) h2] at this; cases this
    · exact h3
  obtain ⟨e1, e2⟩ := ins_none (n := n) (h := j) hic c2 hmid
  rw [if_pos hj] at e2
  obtain ⟨xs, hr, hx⟩ := h.row
  have hni := h.next i hi
  have hst := (World.ownsRow.stored hni j (.int .i64 (n.id : Nat))).1
  refine ⟨?_, ⟨xs, ?_, hx⟩, ?_⟩
  · exact blk_chg h.box (Chg.set w _ j _) (fun e => row_ne3 hni h.box hL (by rw [e]; rfl))
  · exact row_same hr fun q hq => (Chg.set w _ j _).block q (World.ownsRow.lt hr q hq).2 (fun e => row_two hr hni hN q hq (by rw [e]; rfl))
  · intro x hx'
    by_cases e : x = i
    · subst e
      rw [nxJ_step_set T c n j x _ hij, e2]
      exact hst
    · have hnx := h.next x hx'
      have hsame : nxJ T c n (j + 1) x T[x].ht = nxJ T c n j x T[x].ht := by
        by_cases h1 : x < c
        · by_cases h2 : x < i
          · exact nxJ_step_other T c n j x _ (ins_some h1 c2 ⟨i, hi, h2, hic, hij⟩)
          · exact nxJ_high T c n j x _ (hmid x hx' (by omega) h1)
        · exact nxJ_step_other T c n j x _ (by unfold tailI; rw [if_neg h1])
      rw [hsame]
      exact row_same hnx fun q hq => (Chg.set w _ j _).block q (World.ownsRow.lt hnx q hq).2 (fun he => by
        have : T[x].blk = q := by simpa [Value.ownBlock] using hq
        exact e (hap x i hx' hi (by rw [this, he])))
end
end Go.Proofs.Ytcbkjhbneigkaaa
/- The end of Put: the new node stands in the row. -/

namespace Go.Proofs.Ytcbkjhbneigkaaa
open Go.RowKit
set_option linter.unusedVariables false
set_option linter.unusedSimpArgs false
section
variable {κ : Type}
/-- each node of insT is the new one, or an old one in its new place -/
theorem insT_cases (T : List (SE κ)) (c : Nat) (n : SE κ) (hc : c ≤ T.length) (x : Nat) (hx : x < (insT T c n).length) :
    (x = c ∧ (insT T c n)[x] = n ∧ (insT T c n).drop (x + 1) = T.drop c) ∨ (∃ i, ∃ hi : i < T.length, x = (if i < c then i else i + 1) ∧ (insT T c n)[x] = T[i] ∧ (insT T c n).drop (x + 1) = tailI T c n i) := by
  have hl := insT_len T c n hc
  by_cases e : x = c
  · subst e
    refine .inl ⟨rfl, ?_, insT_drop_new T x n hc⟩
    have h := insT_get_new T x n hc
    rw [List.getElem?_eq_getElem hx] at h
    simpa using h
  · have key : ∀ i, i < T.length → x = (if i < c then i else i + 1) → (∃ i, ∃ hi : i < T.length, x = (if i < c then i else i + 1) ∧ (insT T c n)[x] = T[i] ∧ (insT T c n).drop (x + 1) = tailI T c n i) := fun i hi he => by
      subst he
      refine ⟨i, hi, rfl, ?_, insT_drop_old T c n hc i⟩
      have h := insT_get_old T c n hc i
      rw [List.getElem?_eq_getElem hx, List.getElem?_eq_getElem hi] at h
      simpa using h
    right
    by_cases h : x < c
    · exact key x (by omega) (by rw [if_pos h])
    · exact key (x - 1) (by omega) (by rw [if_neg (by omega)]; omega)
end
end Go.Proofs.Ytcbkjhbneigkaaa
/- The end of Put: the row with the new node is laid at the list's block. -/

namespace Go.Proofs.Ytcbkjhbneigkaaa
open Go.RowKit
set_option linter.unusedVariables false
set_option linter.unusedSimpArgs false
section
variable {κ : Type}
/-- the blocks of a list -/
def Fp (p : Nat) (v : Value) (T : List (SE κ)) (k : Nat) : Prop := k = p ∨ v.ownBlock = some k ∨ ∃ e ∈ T, e.blk = k
theorem SK.fp_ge {NT LT : TypeId} {ek : κ → Value} {w : World} {B p : Nat} {v : Value} {T : List (SE κ)} (h : SK NT LT ek w B p v T) : ∀ k, Fp p v T k → B ≤ k ∧ k < w.heap.size := by
  rintro k (rfl | h1 | ⟨e, he, rfl⟩)
  · exact ⟨h.low, blk_lt h.box⟩
  · obtain ⟨xs, hr, _⟩ := h.row
    exact World.ownsRow.lt hr k h1
  · obtain ⟨i, hi, rfl⟩ := List.getElem_of_mem he
    exact World.ownsRow.lt (h.next i hi) _ rfl
theorem SK.chg {NT LT : TypeId} {ek : κ → Value} {w w' : World} {B p : Nat} {v : Value} {T : List (SE κ)} {F : Nat → Prop} (h : SK NT LT ek w B p v T) (hc : Chg F w w') (hF : ∀ k, Fp p v T k → ¬ F k) : SK NT LT ek w' B p v T := by
  obtain ⟨xs, hr, hx⟩ := h.row
  refine ⟨(hc.block p (blk_lt h.box) (hF _ (.inl rfl))).trans h.box, ⟨xs, row_same hr fun k hk => hc.block k (World.ownsRow.lt hr k hk).2 (hF _ (.inr (.inl hk))), hx⟩, fun i hi => ?_, h.apart, h.ids, h.idlt, h.head, h.low⟩
  refine row_same (h.next i hi) fun k hk => hc.block k (World.ownsRow.lt (h.next i hi) k hk).2 (hF _ (.inr (.inr ⟨T[i], List.getElem_mem hi, ?_⟩)))
  simpa [Value.ownBlock] using hk
theorem insT_mem {T : List (SE κ)} {c : Nat} {n e : SE κ} (he : e ∈ insT T c n) : e = n ∨ e ∈ T := by
  unfold insT at he
  rcases List.mem_append.1 he with h | h
  · exact .inr (List.mem_of_mem_take h)
  · rcases List.mem_cons.1 h with h | h
    · exact .inl h
    · exact .inr (List.mem_of_mem_drop h)
theorem SKJ.close {NT LT : TypeId} {ek : κ → Value} {w w2 : World} {B p : Nat} {v v2 : Value} {T : List (SE κ)} {c : Nat} {n : SE κ} {xs : List Value}
    (hN : NT ≠ 3) (hL : LT ≠ NT) (hL2 : LT ≠ 3) (h0 : 0 < c) (hc : c ≤ T.length)
    (box : w.heap[p]? = some (.cells #[v] LT (0, 0))) (hr : w.ownsRow B NT 3 v T.length xs) (hx : ∀ e ∈ T, xs[3 * e.id]? = some (ek e.key) ∧ xs[3 * e.id + 1]? = some e.val ∧ xs[3 * e.id + 2]? = some (.slice (some ⟨e.blk, 0, none⟩) e.ht e.ht))
    (next : ∀ i (hi : i < T.length), w.ownsRow B 3 1 (.slice (some ⟨T[i].blk, 0, none⟩) T[i].ht T[i].ht) T[i].ht (nxJ T c n n.ht i T[i].ht))
    (own : w.ownsRow B 3 1 (.slice (some ⟨n.blk, 0, none⟩) n.ht n.ht) n.ht (nxs (T.drop c) n.ht))
    (hap : ∀ i j (hi : i < T.length) (hj : j < T.length), T[i].blk = T[j].blk → i = j) (hids : ∀ i j (hi : i < T.length) (hj : j < T.length), T[i].id = T[j].id → i = j) (hidlt : ∀ e ∈ T, e.id < T.length)
    (hhead : ∃ e S, T = e :: S ∧ e.id = 0 ∧ e.ht = 12) (hlow : B ≤ p) (hnb : ∀ e ∈ T, e.blk ≠ n.blk) (hnid : n.id = T.length)
    (ho2 : w2.ownsRow B NT 3 v2 (T.length + 1) (xs ++ [ek n.key, n.val, .slice (some ⟨n.blk, 0, none⟩) n.ht n.ht])) (ha : App w w2 v v2) :
    SK NT LT ek (w2.setCell ⟨p, 0, none⟩ v2) B p v2 (insT T c n) := by
  have hlen := insT_len T c n hc
  have hxl : xs.length = T.length * 3 := hr.1
  have hvp : v.ownBlock ≠ some p := row_ne3 hr box hL
  have box2 : w2.heap[p]? = some (.cells #[v] LT (0, 0)) := blk_chg box (Chg.of_app ha) hvp
  have hv2p : v2.ownBlock ≠ some p := row_ne3 ho2 box2 hL
  have keep : ∀ {m q : Nat} {ys : List Value}, w.ownsRow B 3 1 (.slice (some ⟨q, 0, none⟩) m m) m ys → (w2.setCell ⟨p, 0, none⟩ v2).ownsRow B 3 1 (.slice (some ⟨q, 0, none⟩) m m) m ys := fun {m q ys} hrow => by
    have h1 : w2.ownsRow B 3 1 (.slice (some ⟨q, 0, none⟩) m m) m ys := row_same hrow fun k hk => (Chg.of_app ha).block k (World.ownsRow.lt hrow k hk).2 (fun e => row_two hr hrow hN k e hk)
    exact row_same h1 fun k hk => (Chg.set w2 p 0 v2).block k (World.ownsRow.lt h1 k hk).2 (fun e => row_ne3 h1 box2 hL2 (by rw [hk, e]))
  refine ⟨?_, ⟨xs ++ [ek n.key, n.val, .slice (some ⟨n.blk, 0, none⟩) n.ht n.ht], ?_, ?_⟩, ?_, ?_, ?_, ?_, ?_, hlow⟩
  · exact heap_set_list (l := [v]) box2 0 v2
  · rw [hlen]
    exact row_same ho2 fun k hk => (Chg.set w2 p 0 v2).block k (World.ownsRow.lt ho2 k hk).2 (fun e => hv2p (by rw [hk, e]))
  · intro e he
    rcases insT_mem he with rfl | he
    · rw [hnid]
      refine ⟨?_, ?_, ?_⟩
      · rw [List.getElem?_append_right (by omega), show 3 * T.length - xs.length = 0 by omega]; rfl
      · rw [List.getElem?_append_right (by omega), show 3 * T.length + 1 - xs.length = 1 by omega]; rfl
      · rw [List.getElem?_append_right (by omega), show 3 * T.length + 2 - xs.length = 2 by omega]; rfl
    · have := hidlt e he
      obtain ⟨x0, x1, x2⟩ := hx e he
      refine ⟨?_, ?_, ?_⟩
      · rw [List.getElem?_append_left (by omega)]; exact x0
      · rw [List.getElem?_append_left (by omega)]; exact x1
      · rw [List.getElem?_append_left (by omega)]; exact x2
  · intro x hx'
    rcases insT_cases T c n hc x hx' with ⟨_, e2, e3⟩ | ⟨i, hi, _, e2, e3⟩
    · rw [e3, e2]; exact keep own
    · rw [e3, e2]
      have := next i hi
      rw [nxJ_end T c n i _ hc] at this
      exact keep this
  · intro x y hx' hy' e
    rcases insT_cases T c n hc x hx' with ⟨x1, x2, _⟩ | ⟨i, hi, x1, x2, _⟩ <;> rcases insT_cases T c n hc y hy' with ⟨y1, y2, _⟩ | ⟨j, hj, y1, y2, _⟩
    · rw [x1, y1]
    · rw [x2, y2] at e; exact absurd e.symm (hnb _ (List.getElem_mem hj))
    · rw [x2, y2] at e; exact absurd e (hnb _ (List.getElem_mem hi))
    · rw [x2, y2] at e
      obtain rfl := hap i j hi hj e
      rw [x1, y1]
  · intro x y hx' hy' e
    rcases insT_cases T c n hc x hx' with ⟨x1, x2, _⟩ | ⟨i, hi, x1, x2, _⟩ <;> rcases insT_cases T c n hc y hy' with ⟨y1, y2, _⟩ | ⟨j, hj, y1, y2, _⟩
    · rw [x1, y1]
    · rw [x2, y2, hnid] at e; have := hidlt _ (List.getElem_mem hj); omega
    · rw [x2, y2, hnid] at e; have := hidlt _ (List.getElem_mem hi); omega
    · rw [x2, y2] at e
      obtain rfl := hids i j hi hj e
      rw [x1, y1]
  · intro e he
    rw [hlen]
    rcases insT_mem he with rfl | he
    · omega
    · have := hidlt e he; omega
  · obtain ⟨e, S, hT, h1, h2⟩ := hhead
    subst hT
    cases c with
    | zero => omega
    | succ c => exact ⟨e, S.take c ++ n :: S.drop c, rfl, h1, h2⟩
end
end Go.Proofs.Ytcbkjhbneigkaaa
/- Put of a new key: what holds while its levels are laid. -/

namespace Go.Proofs.Ytcbkjhbneigkaaa
open Go.RowKit
set_option linter.unusedVariables false
set_option linter.unusedSimpArgs false
section
variable {κ : Type}
theorem SKJ.chg {NT LT : TypeId} {ek : κ → Value} {w w' : World} {B p : Nat} {v : Value} {T : List (SE κ)} {c : Nat} {n : SE κ} {j : Nat} {F : Nat → Prop} (h : SKJ NT LT ek w B p v T c n j) (hc : Chg F w w') (hF : ∀ k, Fp p v T k → ¬ F k) : SKJ NT LT ek w' B p v T c n j := by
  obtain ⟨xs, hr, hx⟩ := h.row
  refine ⟨(hc.block p (blk_lt h.box) (hF _ (.inl rfl))).trans h.box, ⟨xs, row_same hr fun k hk => hc.block k (World.ownsRow.lt hr k hk).2 (hF _ (.inr (.inl hk))), hx⟩, fun i hi => ?_⟩
  refine row_same (h.next i hi) fun k hk => hc.block k (World.ownsRow.lt (h.next i hi) k hk).2 (hF _ (.inr (.inr ⟨T[i], List.getElem_mem hi, ?_⟩)))
  simpa [Value.ownBlock] using hk
/-- the new node's own next row when the levels below j are done -/
def ownJ (T : List (SE κ)) (c ht j : Nat) : List Value := (nxs (T.drop c) ht).take j ++ List.replicate (ht - j) (.int .i64 0)
theorem ownJ_zero (T : List (SE κ)) (c ht : Nat) : ownJ T c ht 0 = List.replicate ht (.int .i64 0) := by simp [ownJ]
theorem ownJ_end (T : List (SE κ)) (c ht : Nat) : ownJ T c ht ht = nxs (T.drop c) ht := by
  unfold ownJ
  rw [List.take_of_length_le (by rw [nxs_len]; omega), show ht - ht = 0 by omega]; simp
theorem ownJ_step (T : List (SE κ)) (c ht j : Nat) (hj : j < ht) : (ownJ T c ht j).set j (.int .i64 (fid (T.drop c) j : Nat)) = ownJ T c ht (j + 1) := by
  unfold ownJ
  have hl : ((nxs (T.drop c) ht).take j).length = j := by rw [List.length_take, nxs_len]; omega
  rw [List.set_append, if_neg (by omega), hl, Nat.sub_self, show ht - j = (ht - (j + 1)) + 1 by omega, List.replicate_succ, List.set_cons_zero, List.take_add_one, List.append_assoc]
  congr 1
  rw [show (nxs (T.drop c) ht)[j]? = some (.int .i64 (fid (T.drop c) j : Nat)) by simp [nxs, hj]]
  rfl
structure PJ (NT LT : TypeId) (ek : κ → Value) (w0 w : World) (B p : Nat) (v : Value) (T : List (SE κ)) (c : Nat) (n : SE κ) (q j : Nat) : Prop where
  skj : SKJ NT LT ek w B p v T c n j
  own : w.ownsRow B 3 1 (.slice (some ⟨n.blk, 0, none⟩) n.ht n.ht) n.ht (ownJ T c n.ht j)
  xb : w.heap[q]? = some (.cells #[ek n.key, n.val, .slice (some ⟨n.blk, 0, none⟩) n.ht n.ht] NT (0, 0))
  chg : Chg (Fp p v T) w0 w
/-- what is read at one level -/
theorem PJ.cells {lt : κ → κ → Bool} {k : κ} {NT LT : TypeId} {ek : κ → Value} {w0 w : World} {B p : Nat} {v : Value} {T : List (SE κ)} {c : Nat} {n : SE κ} {q j i : Nat} (h : PJ NT LT ek w0 w B p v T c n q j) (hc : CutAt lt T k c) (hj : j < n.ht) (hi : i < T.length) (hidl : T[i].id < T.length) (hp : PredAt' lt T k j i) :
    ∃ g cv, v = .slice (some ⟨g, 0, none⟩) T.length cv ∧ T.length ≤ cv ∧ cv ≤ maxLen ∧ w.cell? ⟨p, 0, none⟩ = some (.slice (some ⟨g, 0, none⟩) T.length cv) ∧ w.cell? ⟨g, T[i].id * 3 + 2, none⟩ = some (.slice (some ⟨T[i].blk, 0, none⟩) T[i].ht T[i].ht) ∧
      w.cell? ⟨T[i].blk, j, none⟩ = some (.int .i64 (fid (T.drop c) j : Nat)) ∧ w.frozen? ⟨T[i].blk, j, none⟩ = false ∧ w.cell? ⟨n.blk, j, none⟩ = some (.int .i64 0) ∧ w.frozen? ⟨n.blk, j, none⟩ = false ∧
      w.cell? ⟨q, 2, none⟩ = some (.slice (some ⟨n.blk, 0, none⟩) n.ht n.ht) ∧ j < T[i].ht := by
  obtain ⟨_, hij, hib, hia⟩ := hp
  obtain ⟨c1, c2, c3, c4⟩ := hc
  have hic : i < c := by
    rcases Nat.lt_or_ge i c with h1 | h1
    · exact h1
    · rcases hib with h2 | h2
      · omega
      · rw [c4 i hi h1] at h2; cases h2
  have hmid : ∀ x (hx : x < T.length), i < x → x < c → T[x].ht ≤ j := fun x hx h1 h2 => by
    rcases Nat.lt_or_ge j T[x].ht with h3 | h3
    · have := hia x hx h1 h3
      rw [c3 x hx (by omega) h2] at this; cases this
    · exact h3
  obtain ⟨e1, _⟩ := ins_none (n := n) (h := j) hic c2 hmid
  obtain ⟨xs, hr, hx⟩ := h.skj.row
  obtain ⟨ao, cv, rfl, h1, h2, h3⟩ := row_shape hr
  obtain ⟨g, rfl, _, _⟩ := h3 (by omega)
  obtain ⟨_, _, x2⟩ := hx _ (List.getElem_mem hi)
  have hnx := h.skj.next i hi
  refine ⟨g, cv, rfl, h1, h2, (cell_one h.skj.box).1, ?_, ?_, World.ownsRow.frozenAt hnx _, ?_, World.ownsRow.frozenAt h.own _, ?_, hij⟩
  · have := World.ownsRow.cells hr (g := g) rfl _ _ x2
    rw [add_none, Nat.zero_add, Nat.mul_comm 3] at this; exact this
  · rw [World.ownsRow.cellAt hnx j (by omega), nxJ_at T c n j i _ j hij, if_neg (by omega), e1]
  · rw [World.ownsRow.cellAt h.own j (by omega)]
    unfold ownJ
    have hl : ((nxs (T.drop c) n.ht).take j).length = j := by rw [List.length_take, nxs_len]; omega
    rw [List.getElem?_append_right (by omega), hl, Nat.sub_self, List.getElem?_replicate_of_lt (by omega)]
  · rw [cell_of_row _ _ _ _ _ _ h.xb]; rfl
theorem PJ.drew {NT LT : TypeId} {ek : κ → Value} {w0 w : World} {B p : Nat} {v : Value} {T : List (SE κ)} {c : Nat} {n : SE κ} {q j : Nat} (h : PJ NT LT ek w0 w B p v T c n q j) : PJ NT LT ek w0 w.drew B p v T c n q j :=
  have hb : Below w.heap.size w w.drew := (Below.refl _ _).drew
  ⟨h.skj.below hb, row_past h.own hb (Nat.le_refl _), (hb.block q (blk_lt h.xb)).trans h.xb, h.chg.trans2 (Chg.of_below (F := fun _ => False) hb) (fun _ _ h => h.elim)⟩
/-- one level -/
theorem PJ.step {lt : κ → κ → Bool} {k : κ} {NT LT : TypeId} {ek : κ → Value} {w0 w : World} {B p : Nat} {v : Value} {T : List (SE κ)} {c : Nat} {n : SE κ} {q j i : Nat} (h : PJ NT LT ek w0 w B p v T c n q j)
    (hN : NT ≠ 3) (hL : LT ≠ 3) (hap : ∀ i j (hi : i < T.length) (hj : j < T.length), T[i].blk = T[j].blk → i = j) (hc : CutAt lt T k c) (hj : j < n.ht) (hi : i < T.length) (hp : PredAt' lt T k j i)
    (hfp : ∀ x, Fp p v T x → x < w0.heap.size) (hnb : w0.heap.size ≤ n.blk) (hq : w0.heap.size ≤ q) (hqn : q ≠ n.blk) :
    PJ NT LT ek w0 ((w.setCell ⟨n.blk, j, none⟩ (.int .i64 (fid (T.drop c) j : Nat))).setCell ⟨T[i].blk, j, none⟩ (.int .i64 (n.id : Nat))) B p v T c n q (j + 1) := by
  have hs1 := Chg.set w n.blk j (.int .i64 (fid (T.drop c) j : Nat))
  have hF : ∀ x, Fp p v T x → ¬ x = n.blk := fun x hx e => by have := hfp x hx; omega
  have k1 := h.skj.chg hs1 hF
  have hs2 := Chg.set (w.setCell ⟨n.blk, j, none⟩ (.int .i64 (fid (T.drop c) j : Nat))) T[i].blk j (.int .i64 (n.id : Nat))
  have hib : T[i].blk < w0.heap.size := hfp _ (.inr (.inr ⟨T[i], List.getElem_mem hi, rfl⟩))
  refine ⟨k1.step hN hL hap hc hj hi hp, ?_, ?_, ?_⟩
  · have := (World.ownsRow.stored h.own j (.int .i64 (fid (T.drop c) j : Nat))).1
    rw [ownJ_step T c n.ht j hj] at this
    exact row_same this fun x hx => hs2.block x (World.ownsRow.lt this x hx).2 (fun e => by
      have : n.blk = x := by simpa [Value.ownBlock] using hx
      omega)
  · exact blk_chg (blk_chg h.xb hs1 hqn) hs2 (by omega)
  · refine (h.chg.trans2 hs1 (fun x hx e => ?_)).trans2 hs2 (fun x hx e => ?_)
    · omega
    · subst e; exact .inr (.inr ⟨T[i], List.getElem_mem hi, rfl⟩)
theorem PJ.below {NT LT : TypeId} {ek : κ → Value} {w0 w w' : World} {B p : Nat} {v : Value} {T : List (SE κ)} {c : Nat} {n : SE κ} {q j : Nat} (h : PJ NT LT ek w0 w B p v T c n q j) (hb : Below w.heap.size w w') : PJ NT LT ek w0 w' B p v T c n q j :=
  ⟨h.skj.below hb, row_past h.own hb (Nat.le_refl _), (hb.block q (blk_lt h.xb)).trans h.xb, h.chg.trans2 (Chg.of_below (F := fun _ => False) hb) (fun _ _ h => h.elim)⟩
/-- the end -/
theorem PJ.close {NT LT : TypeId} {ek : κ → Value} {w0 w : World} {B p : Nat} {v : Value} {T : List (SE κ)} {c : Nat} {n : SE κ} {q : Nat} (h : PJ NT LT ek w0 w B p v T c n q n.ht) (hsk : SK NT LT ek w0 B p v T)
    (hN : NT ≠ 3) (hL : LT ≠ NT) (hL2 : LT ≠ 3) (h0 : 0 < c) (hc : c ≤ T.length) (hnb : w0.heap.size ≤ n.blk) (hnid : n.id = T.length) :
    ∃ xs, w.ownsRow B NT 3 v T.length xs ∧ ∀ v2 w2, w2.ownsRow B NT 3 v2 (T.length + 1) (xs ++ [ek n.key, n.val, .slice (some ⟨n.blk, 0, none⟩) n.ht n.ht]) → App w w2 v v2 →
      SK NT LT ek (w2.setCell ⟨p, 0, none⟩ v2) B p v2 (insT T c n) ∧ Chg (Fp p v T) w0 (w2.setCell ⟨p, 0, none⟩ v2) ∧ Lies w0 v v2 ∧ w2.heap[p]? = some (.cells #[v] LT (0, 0)) := by
  obtain ⟨xs, hr, hx⟩ := h.skj.row
  have hown := h.own
  rw [ownJ_end] at hown
  refine ⟨xs, hr, fun v2 w2 ho2 ha => ⟨SKJ.close hN hL hL2 h0 hc h.skj.box hr hx h.skj.next hown hsk.apart hsk.ids hsk.idlt hsk.head hsk.low ?_ hnid ho2 ha, ?_, ?_, ?_⟩⟩
  · intro e he
    have := (hsk.fp_ge _ (.inr (.inr ⟨e, he, rfl⟩))).2
    omega
  · refine (h.chg.trans2 (Chg.of_app ha) (fun x _ hx => .inr (.inl hx))).trans2 (Chg.set w2 p 0 v2) (fun x _ hx => .inl hx)
  · rcases ha.lies with e | ⟨g, e1, e2⟩
    · exact .inl e
    · exact .inr ⟨g, e1, Nat.le_trans h.chg.size e2⟩
  · exact blk_chg h.skj.box (Chg.of_app ha) (row_ne3 hr h.skj.box hL)
end
set_option maxRecDepth 100000 in
/-- an array of twelve at an index -/
theorem arr12 (bs : List Nat) (hbs : bs.length = 12) (j : Nat) (hj : j < bs.length) : ∀ w, (Instr.index 98 (.agg (bvals bs).toArray) (.int .i64 (j : Nat))).run Try.prog w = .ok (.int .i64 (bs[j] : Nat)) w := by
  obtain ⟨b0, b1, b2, b3, b4, b5, b6, b7, b8, b9, b10, b11, rfl⟩ := twelve hbs
  intro w
  have hj : j < 12 := by simpa using hj
  have hc : j = 0 ∨ j = 1 ∨ j = 2 ∨ j = 3 ∨ j = 4 ∨ j = 5 ∨ j = 6 ∨ j = 7 ∨ j = 8 ∨ j = 9 ∨ j = 10 ∨ j = 11 := by omega
  rcases hc with rfl | rfl | rfl | rfl | rfl | rfl | rfl | rfl | rfl | rfl | rfl | rfl <;> first | kernel_rfl | rfl
end Go.Proofs.Ytcbkjhbneigkaaa
/- skip.New. -/

namespace Go.Proofs.Ytcbkjhbneigkaaa
open Go.RowKit
set_option linter.unusedVariables false
set_option linter.unusedSimpArgs false

theorem infoInt05 : (Try.prog.info? 3).map (fun i => (i.zero, i.size, i.bytes)) = some (some (.int .i64 0), 1, 8) := by kernel_rfl
/-- make of n ints -/
theorem wpList_mki05 {w : World} {ops : Array Oper} {rest : List Oper} {o : Oper} {a : Act} {Q : Exit → Act → World → Prop} (hg : o.guard = none) (l c : Operand)
    (ho : o.op = Op.makeSlice 51 l c) (base n : Nat) (hl : a.eval l = .int .i64 n) (hc : a.eval c = .int .i64 n) (hn : n ≤ 10000) (hbase : base ≤ w.heap.size)
    (h : ∀ w', w'.ownsRow base 3 1 (.slice (some ⟨w.heap.size, 0, none⟩) n n) n (List.replicate n (.int .i64 0)) → Below w.heap.size w w' → wpList Try.prog ops Q rest (a.put o.dst (.slice (some ⟨w.heap.size, 0, none⟩) n n)) w') :
    wpList Try.prog ops Q (o :: rest) a w := by
  obtain ⟨i0, hi, hz0, hz1, hz2⟩ := info_parts infoInt05
  refine wpList_make_full w hg l c 51 ho base 3 i0 (.int .i64 0) 1 Try.underlying51 hi hz0 hz1 .i64 .i64 n n n hl hc rfl rfl (by rw [hz2]; omega) (by unfold maxLen; omega) hbase ?_
  intro w' hown hgr
  have e : (madeCells (Value.int .i64 0).cells (n * 1)).toList = List.replicate n (.int .i64 0) := by
    rw [Nat.mul_one]; exact toList_madeCells_one _ _
  rw [e] at hown
  exact h w' hown ⟨hgr.os, hgr.tape, hgr.output, hgr.size, fun k hk => hgr.block k hk (by simp)⟩
end Go.Proofs.Ytcbkjhbneigkaaa
/- Put of a key that is not there. -/

namespace Go.Proofs.Ytcbkjhbneigkaaa
open Go.RowKit
set_option linter.unusedVariables false
set_option linter.unusedSimpArgs false

end Go.Proofs.Ytcbkjhbneigkaaa
/- Get, Next, Prev, Floor, First. -/

namespace Go.Proofs.Ytcbkjhbneigkaaa
open Go.RowKit
set_option linter.unusedVariables false
set_option linter.unusedSimpArgs false

/-- the place of a key, or the head -/
def fnd (T : List (SE Int)) (c : Nat) (k : Int) : Nat := if h : c < T.length then (if T[c].key = k then c else 0) else 0
theorem fnd_lt {T : List (SE Int)} (c : Nat) (k : Int) (h0 : 0 < T.length) : fnd T c k < T.length := by
  unfold fnd; split
  · split <;> omega
  · exact h0
end Go.Proofs.Ytcbkjhbneigkaaa
/- Keys: a range over the closure that all gives. -/

namespace Go.Proofs.Ytcbkjhbneigkaaa
open Go.RowKit Go.Shelf
set_option linter.unusedVariables false
set_option linter.unusedSimpArgs false
attribute [local go_sem] Oper.semAt_some

section
variable {κ : Type}
def keysT (T : List (SE κ)) (i : Nat) : List κ := ((T.take i).drop 1).map SE.key
theorem keysT_one (T : List (SE κ)) : keysT T 1 = [] := by unfold keysT; rw [List.drop_of_length_le (by rw [List.length_take]; omega)]; rfl
theorem keysT_succ (T : List (SE κ)) (i : Nat) (h1 : 1 ≤ i) (hi : i < T.length) : keysT T (i + 1) = keysT T i ++ [T[i].key] := by
  unfold keysT
  rw [List.take_succ_eq_append_getElem hi, List.drop_append_of_le_length (by rw [List.length_take]; omega), List.map_append]; rfl
theorem keysT_len (T : List (SE κ)) (i : Nat) (hi : i ≤ T.length) : (keysT T i).length = i - 1 := by
  unfold keysT; rw [List.length_map, List.length_drop, List.length_take]; omega
def idAt (T : List (SE κ)) (i : Nat) : Nat := if h : i < T.length then T[i].id else 0
theorem idAt_lt {T : List (SE κ)} {i : Nat} (h : i < T.length) : idAt T i = T[i].id := dif_pos h
theorem idAt_end (T : List (SE κ)) : idAt T T.length = 0 := dif_neg (Nat.lt_irrefl _)
theorem next_idAt {T : List (SE κ)} (c : Nat) (hht : ∀ j (hj : j < T.length), 0 < T[j].ht) : fid (T.drop c) 0 = idAt T c := next_zero c hht
/-- the place of an id; 0 stands behind all -/
def plc (T : List (SE κ)) (n : Nat) : Nat := if n = 0 then T.length else T.findIdx (fun e => e.id == n)
theorem plc_zero (T : List (SE κ)) : plc T 0 = T.length := if_pos rfl
theorem plc_at {T : List (SE κ)} (hids : ∀ i j (hi : i < T.length) (hj : j < T.length), T[i].id = T[j].id → i = j) (i : Nat) (hi : i < T.length) (hn : T[i].id ≠ 0) : plc T T[i].id = i := by
  unfold plc
  rw [if_neg hn, List.findIdx_eq hi]
  refine ⟨by simp, fun j hj => ?_⟩
  rw [beq_eq_false_iff_ne]
  intro e
  have := hids j i (by omega) hi e
  omega
/-- what a round keeps: what lay below, and the box of the list -/
def KpS (n₀ b : Nat) (A B : World) : Prop := Below n₀ A B ∧ ∀ v, A.cell? ⟨b, 0, none⟩ = some v → B.cell? ⟨b, 0, none⟩ = some v
theorem KpS.trans {n₀ b : Nat} {A B C : World} (h : KpS n₀ b A B) (k : KpS n₀ b B C) : KpS n₀ b A C := ⟨h.1.trans k.1, fun v hv => k.2 v (h.2 v hv)⟩
theorem KpS.put {n₀ b : Nat} {w : World} (hn : n₀ ≤ w.heap.size) (W : World) (l : Nat) (o o' : Obj) (hl : w.heap.size ≤ l) (h : W.heap[l]? = some o) (hc : o.isCells = false) (hw : o.isWalk = false) : KpS n₀ b W (W.putObj l o') :=
  ⟨belowK_b hn W l o o' hl h hc hw, fun v hv => cell_kept hv (grownBy_putObj' W l o') (fun r e => by cases e; exact ⟨o, h, hc⟩)⟩
theorem cell_blk05 {w w' : World} {b j : Nat} (h : w'.heap[b]? = w.heap[b]?) : w'.cell? ⟨b, j, none⟩ = w.cell? ⟨b, j, none⟩ := by
  unfold World.cell?; simp only [h]
theorem chg_of_below {n₀ : Nat} {A B : World} (h : Below n₀ A B) : Chg (fun k => n₀ ≤ k) A B := ⟨h.os, h.tape, h.output, h.size, fun k _ hn => h.block k (by omega)⟩
end

def evs (l : List Int) : List Value := l.map (Value.int .i64)
theorem evs_snoc (l : List Int) (x : Int) : evs (l ++ [x]) = evs l ++ [.int .i64 x] := by simp [evs]

end Go.Proofs.Ytcbkjhbneigkaaa
/- Last. -/

namespace Go.Proofs.Ytcbkjhbneigkaaa
open Go.RowKit
set_option linter.unusedVariables false
set_option linter.unusedSimpArgs false

end Go.Proofs.Ytcbkjhbneigkaaa
/- A sorted list as its entries: plain laws. -/

namespace Go.Proofs.Ytcbkjhbneigkaaa
open Go.RowKit
set_option linter.unusedVariables false
set_option linter.unusedSimpArgs false

/-- an entry: key, value, height -/
structure E3 (κ ν : Type) where
  k : κ
  v : ν
  h : Nat
section
variable {κ ν : Type}
def ERise (lt : κ → κ → Bool) : List (E3 κ ν) → Prop
  | [] => True
  | e :: R => (∀ f ∈ R, lt e.k f.k = true) ∧ ERise lt R
def cutE (lt : κ → κ → Bool) (k : κ) : List (E3 κ ν) → Nat
  | [] => 0
  | e :: R => if lt e.k k = true then cutE lt k R + 1 else 0
theorem cutE_le (lt : κ → κ → Bool) (k : κ) : ∀ L : List (E3 κ ν), cutE lt k L ≤ L.length
  | [] => Nat.le_refl _
  | e :: R => by have := cutE_le lt k R; unfold cutE; split <;> simp only [List.length_cons] <;> omega
theorem cutE_below {lt : κ → κ → Bool} (k : κ) : ∀ (L : List (E3 κ ν)) (j : Nat) (hj : j < L.length), j < cutE lt k L → lt L[j].k k = true
  | [], j, hj, _ => absurd hj (Nat.not_lt_zero _)
  | e :: R, j, hj, hc => by
    unfold cutE at hc
    by_cases h : lt e.k k = true
    · rw [if_pos h] at hc
      cases j with
      | zero => exact h
      | succ j => exact cutE_below k R j (by simpa using hj) (by omega)
    · rw [if_neg h] at hc; omega
theorem cutE_above {lt : κ → κ → Bool} (o : KOrd lt) (k : κ) : ∀ (L : List (E3 κ ν)), ERise lt L → ∀ (j : Nat) (hj : j < L.length), cutE lt k L ≤ j → lt L[j].k k = false
  | [], _, j, hj, _ => absurd hj (Nat.not_lt_zero _)
  | e :: R, hs, j, hj, hc => by
    unfold cutE at hc
    by_cases h : lt e.k k = true
    · rw [if_pos h] at hc
      cases j with
      | zero => omega
      | succ j => exact cutE_above o k R hs.2 j (by simpa using hj) (by omega)
    · have hf : lt e.k k = false := by simpa using h
      cases j with
      | zero => exact hf
      | succ j =>
        have hj2 : j < R.length := by simpa using hj
        have h1 := hs.1 _ (List.getElem_mem hj2)
        show lt (R[j]'hj2).k k = false
        cases h2 : lt (R[j]'hj2).k k with
        | false => rfl
        | true => have := o.trans _ _ _ h1 h2; rw [hf] at this; cases this
theorem erise_at {lt : κ → κ → Bool} : ∀ {L : List (E3 κ ν)}, ERise lt L → ∀ i j (hi : i < L.length) (hj : j < L.length), i < j → lt L[i].k L[j].k = true
  | [], _, i, _, hi, _, _ => absurd hi (Nat.not_lt_zero _)
  | e :: R, hs, 0, j + 1, _, hj, _ => hs.1 _ (List.getElem_mem (by simpa using hj))
  | e :: R, hs, i + 1, j + 1, hi, hj, h => erise_at hs.2 i j (by simpa using hi) (by simpa using hj) (by omega)
theorem erise_of {lt : κ → κ → Bool} : ∀ {L : List (E3 κ ν)}, (∀ i j (hi : i < L.length) (hj : j < L.length), i < j → lt L[i].k L[j].k = true) → ERise lt L
  | [], _ => trivial
  | e :: R, h => ⟨fun f hf => by
      obtain ⟨j, hj, rfl⟩ := List.getElem_of_mem hf
      exact h 0 (j + 1) (by simp) (by simpa using hj) (by omega), erise_of fun i j hi hj hij => h (i + 1) (j + 1) (by simpa using hi) (by simpa using hj) (by omega)⟩
/-- put -/
def hasE [DecidableEq κ] (L : List (E3 κ ν)) (c : Nat) (k : κ) : Bool := if h : c < L.length then decide (L[c].k = k) else false
theorem hasE_true [DecidableEq κ] {L : List (E3 κ ν)} {c : Nat} {k : κ} : hasE L c k = true ↔ ∃ h : c < L.length, L[c].k = k := by
  unfold hasE
  by_cases h : c < L.length
  · rw [dif_pos h, decide_eq_true_iff]; exact ⟨fun e => ⟨h, e⟩, fun ⟨_, e⟩ => e⟩
  · rw [dif_neg h]; exact ⟨fun e => Bool.noConfusion e, fun ⟨e, _⟩ => absurd e h⟩
theorem hasE_false [DecidableEq κ] {L : List (E3 κ ν)} {c : Nat} {k : κ} (hf : hasE L c k = false) : ∀ h : c < L.length, L[c].k ≠ k := fun h e => by
  rw [hasE_true.2 ⟨h, e⟩] at hf; cases hf
def setE (y : ν) (e : E3 κ ν) : E3 κ ν := { e with v := y }
def putE [DecidableEq κ] (lt : κ → κ → Bool) (L : List (E3 κ ν)) (k : κ) (y : ν) (h : Nat) : List (E3 κ ν) :=
  if hasE L (cutE lt k L) k = true then L.modify (cutE lt k L) (setE y) else L.take (cutE lt k L) ++ ⟨k, y, h⟩ :: L.drop (cutE lt k L)
theorem erise_append {lt : κ → κ → Bool} : ∀ {A R : List (E3 κ ν)}, ERise lt A → ERise lt R → (∀ a ∈ A, ∀ b ∈ R, lt a.k b.k = true) → ERise lt (A ++ R)
  | [], R, _, hR, _ => hR
  | a :: A, R, hA, hR, h => ⟨fun f hf => (List.mem_append.1 hf).elim (hA.1 f) (h a (List.mem_cons_self ..) f), erise_append hA.2 hR fun x hx => h x (List.mem_cons_of_mem _ hx)⟩
theorem putE_rise [DecidableEq κ] {lt : κ → κ → Bool} (o : KOrd lt) {L : List (E3 κ ν)} (hs : ERise lt L) (k : κ) (y : ν) (h : Nat) : ERise lt (putE lt L k y h) := by
  unfold putE
  have hc := cutE_le lt k L
  by_cases hb : hasE L (cutE lt k L) k = true
  · rw [if_pos hb]
    refine erise_of fun i j hi hj hij => ?_
    have hi' : i < L.length := by simpa using hi
    have hj' : j < L.length := by simpa using hj
    have := erise_at hs i j hi' hj' hij
    rw [List.getElem_modify, List.getElem_modify]
    split <;> split <;> exact this
  · rw [if_neg hb]
    have hb' : hasE L (cutE lt k L) k = false := by simpa using hb
    refine erise_append ?_ ⟨?_, ?_⟩ ?_
    · exact erise_of fun i j hi hj hij => by
        rw [List.length_take] at hi hj
        rw [List.getElem_take, List.getElem_take]
        exact erise_at hs i j (by omega) (by omega) hij
    · intro f hf
      obtain ⟨j, hj, rfl⟩ := List.getElem_of_mem hf
      rw [List.length_drop] at hj
      rw [List.getElem_drop]
      have h1 := cutE_above o k L hs (cutE lt k L + j) (by omega) (by omega)
      rcases o.tri k L[cutE lt k L + j].k with h2 | h2 | h2
      · exact h2
      · exfalso
        rcases Nat.eq_zero_or_pos j with rfl | hj0
        · exact hasE_false hb' (by omega) h2.symm
        · have h3 := erise_at hs (cutE lt k L) (cutE lt k L + j) (by omega) (by omega) (by omega)
          rw [← h2] at h3
          have h4 := cutE_above o k L hs (cutE lt k L) (by omega) (Nat.le_refl _)
          rw [h3] at h4; cases h4
      · rw [h1] at h2; cases h2
    · exact erise_of fun i j hi hj hij => by
        rw [List.length_drop] at hi hj
        rw [List.getElem_drop, List.getElem_drop]
        exact erise_at hs _ _ (by omega) (by omega) (by omega)
    · intro a ha b hb
      obtain ⟨i, hi, rfl⟩ := List.getElem_of_mem ha
      rw [List.length_take] at hi
      rw [List.getElem_take]
      have h1 := cutE_below (lt := lt) k L i (by omega) (by omega)
      rcases List.mem_cons.1 hb with rfl | hb
      · exact h1
      · obtain ⟨j, hj, rfl⟩ := List.getElem_of_mem hb
        rw [List.length_drop] at hj
        rw [List.getElem_drop]
        exact erise_at hs _ _ (by omega) (by omega) (by omega)
/-- the nodes tell these entries -/
def tri (ev : ν → Value) (x : E3 κ ν) : κ × Value × Nat := (x.k, ev x.v, x.h)
def triS (e : SE κ) : κ × Value × Nat := (e.key, e.val, e.ht)
structure IsSk (NT LT : TypeId) (ek : κ → Value) (ev : ν → Value) (lt : κ → κ → Bool) (z0 : κ) (zv : ν) (w : World) (B p : Nat) (F : Nat → Prop) (L : List (E3 κ ν)) : Prop where
  sk : ∃ v hd S, SK NT LT ek w B p v (hd :: S) ∧ S.map triS = L.map (tri ev) ∧ hd.key = z0 ∧ hd.val = ev zv ∧ F = Fp p v (hd :: S)
  rise : ERise lt L
  hts : ∀ x ∈ L, 1 ≤ x.h ∧ x.h ≤ 12
theorem tri_at {ev : ν → Value} {S : List (SE κ)} {L : List (E3 κ ν)} (h : S.map triS = L.map (tri ev)) : S.length = L.length ∧ ∀ j (hj : j < S.length) (hj' : j < L.length), S[j].key = L[j].k ∧ S[j].val = ev L[j].v ∧ S[j].ht = L[j].h := by
  have hl : S.length = L.length := by simpa using congrArg List.length h
  refine ⟨hl, fun j hj hj' => ?_⟩
  have h1 : (S.map triS)[j]? = (L.map (tri ev))[j]? := by rw [h]
  rw [List.getElem?_map, List.getElem?_map, List.getElem?_eq_getElem hj, List.getElem?_eq_getElem hj'] at h1
  simp only [Option.map_some, Option.some.injEq, triS, tri, Prod.mk.injEq] at h1
  exact h1
/-- all that a walk asks of the nodes -/
structure Good (lt : κ → κ → Bool) (ev : ν → Value) (z0 : κ) (zv : ν) (T : List (SE κ)) (L : List (E3 κ ν)) : Prop where
  len : T.length = L.length + 1
  rise : TRise lt T
  pos : ∀ j (hj : j < T.length), 0 < T[j].ht
  top : ∀ j (hj : j < T.length), T[j].ht ≤ 12
  cut : ∀ k, CutAt lt T k (cutE lt k L + 1)
  ent : ∀ j (hj : j < L.length) (hj' : j + 1 < T.length), T[j + 1].key = L[j].k ∧ T[j + 1].val = ev L[j].v ∧ T[j + 1].ht = L[j].h
  zero : ∀ h : 0 < T.length, T[0].key = z0 ∧ T[0].val = ev zv
theorem IsSk.good {NT LT : TypeId} {ek : κ → Value} {ev : ν → Value} {lt : κ → κ → Bool} (o : KOrd lt) {z0 : κ} {zv : ν} {w : World} {B p : Nat} {F : Nat → Prop} {L : List (E3 κ ν)} (h : IsSk NT LT ek ev lt z0 zv w B p F L) :
    ∃ v T, SK NT LT ek w B p v T ∧ Good lt ev z0 zv T L ∧ F = Fp p v T := by
  obtain ⟨v, hd, S, hS, hm, hz1, hz2, hF⟩ := h.sk
  obtain ⟨hl, hat⟩ := tri_at hm
  have hh : hd.ht = 12 := by
    obtain ⟨e, S', e1, _, e2⟩ := hS.head
    rw [List.cons.injEq] at e1
    rw [e1.1]; exact e2
  refine ⟨v, hd :: S, hS, ⟨by rw [List.length_cons, hl], ?_, ?_, ?_, ?_, ?_, fun _ => ⟨hz1, hz2⟩⟩, hF⟩
  · intro i j hi hj h0 hij
    obtain ⟨i, rfl⟩ : ∃ x, i = x + 1 := ⟨i - 1, by omega⟩
    obtain ⟨j, rfl⟩ : ∃ x, j = x + 1 := ⟨j - 1, by omega⟩
    simp only [List.length_cons] at hi hj
    show lt S[i].key S[j].key = true
    rw [(hat i (by omega) (by omega)).1, (hat j (by omega) (by omega)).1]
    exact erise_at h.rise i j (by omega) (by omega) (by omega)
  · intro j hj
    cases j with
    | zero => show 0 < hd.ht; omega
    | succ j =>
      simp only [List.length_cons] at hj
      show 0 < S[j].ht
      rw [(hat j (by omega) (by omega)).2.2]
      exact (h.hts _ (List.getElem_mem _)).1
  · intro j hj
    cases j with
    | zero => show hd.ht ≤ 12; omega
    | succ j =>
      simp only [List.length_cons] at hj
      show S[j].ht ≤ 12
      rw [(hat j (by omega) (by omega)).2.2]
      exact (h.hts _ (List.getElem_mem _)).2
  · intro k
    have hc := cutE_le lt k L
    refine ⟨by omega, by rw [List.length_cons]; omega, ?_, ?_⟩
    · intro j hj h0 hjc
      obtain ⟨j, rfl⟩ : ∃ x, j = x + 1 := ⟨j - 1, by omega⟩
      simp only [List.length_cons] at hj
      show lt S[j].key k = true
      rw [(hat j (by omega) (by omega)).1]
      exact cutE_below k L j (by omega) (by omega)
    · intro j hj hjc
      obtain ⟨j, rfl⟩ : ∃ x, j = x + 1 := ⟨j - 1, by omega⟩
      simp only [List.length_cons] at hj
      show lt S[j].key k = false
      rw [(hat j (by omega) (by omega)).1]
      exact cutE_above o k L h.rise j (by omega) (by omega)
  · intro j hj hj'
    exact hat j (by omega) hj
theorem IsSk.below {NT LT : TypeId} {ek : κ → Value} {ev : ν → Value} {lt : κ → κ → Bool} {z0 : κ} {zv : ν} {w w' : World} {B p : Nat} {F : Nat → Prop} {L : List (E3 κ ν)} (h : IsSk NT LT ek ev lt z0 zv w B p F L) (hb : Below w.heap.size w w') : IsSk NT LT ek ev lt z0 zv w' B p F L := by
  obtain ⟨v, hd, S, hS, r⟩ := h.sk
  exact ⟨⟨v, hd, S, hS.below hb, r⟩, h.rise, h.hts⟩
theorem IsSk.chg {NT LT : TypeId} {ek : κ → Value} {ev : ν → Value} {lt : κ → κ → Bool} {z0 : κ} {zv : ν} {w w' : World} {B p : Nat} {F G : Nat → Prop} {L : List (E3 κ ν)} (h : IsSk NT LT ek ev lt z0 zv w B p F L) (hc : Chg G w w') (hd : ∀ k, F k → ¬ G k) : IsSk NT LT ek ev lt z0 zv w' B p F L := by
  obtain ⟨v, h0, S, hS, r1, r2, r3, rfl⟩ := h.sk
  exact ⟨⟨v, h0, S, hS.chg hc hd, r1, r2, r3, rfl⟩, h.rise, h.hts⟩
theorem IsSk.ge {NT LT : TypeId} {ek : κ → Value} {ev : ν → Value} {lt : κ → κ → Bool} {z0 : κ} {zv : ν} {w : World} {B p : Nat} {F : Nat → Prop} {L : List (E3 κ ν)} (h : IsSk NT LT ek ev lt z0 zv w B p F L) : ∀ k, F k → B ≤ k ∧ k < w.heap.size := by
  obtain ⟨v, h0, S, hS, r1, r2, r3, rfl⟩ := h.sk
  exact hS.fp_ge
theorem IsSk.room {NT LT : TypeId} {ek : κ → Value} {ev : ν → Value} {lt : κ → κ → Bool} {z0 : κ} {zv : ν} {w : World} {B p : Nat} {F : Nat → Prop} {L : List (E3 κ ν)} (h : IsSk NT LT ek ev lt z0 zv w B p F L) : B ≤ w.heap.size := by
  obtain ⟨v, h0, S, hS, r1, r2, r3, rfl⟩ := h.sk
  have := hS.low; have := blk_lt hS.box; omega
theorem hasE_T [DecidableEq κ] {lt : κ → κ → Bool} {ev : ν → Value} {z0 : κ} {zv : ν} {T : List (SE κ)} {L : List (E3 κ ν)} (g : Good lt ev z0 zv T L) (k : κ) (hf : hasE L (cutE lt k L) k = false) : ∀ h : cutE lt k L + 1 < T.length, T[cutE lt k L + 1].key ≠ k := fun h e => by
  have hl := g.len
  have h1 := g.ent (cutE lt k L) (by omega) h
  exact hasE_false hf (by omega) (by rw [← h1.1]; exact e)
/-- behind a put of a key that is there -/
theorem IsSk.again [DecidableEq κ] {NT LT : TypeId} {ek : κ → Value} {ev : ν → Value} {lt : κ → κ → Bool} (o : KOrd lt) {z0 : κ} {zv : ν} {w' : World} {B p : Nat} {L : List (E3 κ ν)} {v : Value} {T : List (SE κ)} {k : κ} {y : ν} {h : Nat} (hs : ERise lt L) (hts : ∀ x ∈ L, 1 ≤ x.h ∧ x.h ≤ 12)
    (g : Good lt ev z0 zv T L) (hb : hasE L (cutE lt k L) k = true) (hS : SK NT LT ek w' B p v (T.modify (cutE lt k L + 1) (setV · (ev y)))) : IsSk NT LT ek ev lt z0 zv w' B p (Fp p v T) (putE lt L k y h) := by
  have hc := cutE_le lt k L
  have hl := g.len
  have hpe : putE lt L k y h = L.modify (cutE lt k L) (setE y) := if_pos hb
  refine ⟨?_, putE_rise o hs k y h, ?_⟩
  · rw [hpe]
    cases T with
    | nil => simp at hl
    | cons hd S =>
      rw [List.modify_succ_cons] at hS
      have hz := g.zero (by simp)
      simp only [List.length_cons] at hl
      refine ⟨v, hd, _, hS, ?_, hz.1, hz.2, ?_⟩
      · refine List.ext_getElem (by simp; omega) fun i h1 h2 => ?_
        simp only [List.length_map, List.length_modify] at h1 h2
        have he := g.ent i h2 (by simp; omega)
        simp only [List.getElem_cons_succ] at he
        simp only [List.getElem_map, List.getElem_modify]
        by_cases e : cutE lt k L = i
        · rw [if_pos e, if_pos e]; simp only [triS, tri, setV, setE, he.1, he.2.2]
        · rw [if_neg e, if_neg e]; simp only [triS, tri, he.1, he.2.1, he.2.2]
      · funext x
        unfold Fp
        refine propext ⟨?_, ?_⟩
        · rintro (h | h | ⟨e, he, h⟩)
          · exact .inl h
          · exact .inr (.inl h)
          · refine .inr (.inr ?_)
            rcases List.mem_cons.1 he with rfl | he
            · exact ⟨_, List.mem_cons_self .., h⟩
            · obtain ⟨i, hi, rfl⟩ := List.getElem_of_mem he
              refine ⟨(S.modify (cutE lt k L) (setV · (ev y)))[i]'(by simpa using hi), List.mem_cons_of_mem _ (List.getElem_mem _), ?_⟩
              rw [List.getElem_modify]
              split <;> exact h
        · rintro (h | h | ⟨e, he, h⟩)
          · exact .inl h
          · exact .inr (.inl h)
          · refine .inr (.inr ?_)
            rcases List.mem_cons.1 he with rfl | he
            · exact ⟨_, List.mem_cons_self .., h⟩
            · obtain ⟨i, hi, rfl⟩ := List.getElem_of_mem he
              have hi' : i < S.length := by simpa using hi
              refine ⟨S[i], List.mem_cons_of_mem _ (List.getElem_mem _), ?_⟩
              rw [List.getElem_modify] at h
              split at h <;> exact h
  · rw [hpe]
    intro x hx
    obtain ⟨i, hi, rfl⟩ := List.getElem_of_mem hx
    have hi' : i < L.length := by simpa using hi
    have := hts _ (List.getElem_mem hi')
    rw [List.getElem_modify]
    split <;> exact this
/-- behind a put of a new key -/
theorem IsSk.fresh [DecidableEq κ] {NT LT : TypeId} {ek : κ → Value} {ev : ν → Value} {lt : κ → κ → Bool} (o : KOrd lt) {z0 : κ} {zv : ν} {w w' : World} {B p nb id : Nat} {L : List (E3 κ ν)} {v v2 : Value} {T : List (SE κ)} {k : κ} {y : ν} {h : Nat} (hs : ERise lt L) (hts : ∀ x ∈ L, 1 ≤ x.h ∧ x.h ≤ 12) (h1 : 1 ≤ h) (h12 : h ≤ 12)
    (g : Good lt ev z0 zv T L) (hb : hasE L (cutE lt k L) k = false) (hS : SK NT LT ek w' B p v2 (insT T (cutE lt k L + 1) ⟨k, ev y, h, id, nb⟩)) (hnb : w.heap.size ≤ nb) (hli : Lies w v v2) :
    ∃ F, IsSk NT LT ek ev lt z0 zv w' B p F (putE lt L k y h) ∧ ∀ x, F x → Fp p v T x ∨ w.heap.size ≤ x := by
  have hc := cutE_le lt k L
  have hl := g.len
  have hpe : putE lt L k y h = L.take (cutE lt k L) ++ ⟨k, y, h⟩ :: L.drop (cutE lt k L) := if_neg (by rw [hb]; simp)
  refine ⟨Fp p v2 (insT T (cutE lt k L + 1) ⟨k, ev y, h, id, nb⟩), ⟨?_, putE_rise o hs k y h, ?_⟩, ?_⟩
  · rw [hpe]
    cases T with
    | nil => simp at hl
    | cons hd S =>
      have hz := g.zero (by simp)
      simp only [List.length_cons] at hl
      have hmap : S.map triS = L.map (tri ev) := by
        refine List.ext_getElem (by simp; omega) fun i h1 h2 => ?_
        simp only [List.length_map] at h1 h2
        have he := g.ent i h2 (by simp; omega)
        simp only [List.getElem_cons_succ] at he
        simp only [List.getElem_map, triS, tri, he.1, he.2.1, he.2.2]
      refine ⟨v2, hd, S.take (cutE lt k L) ++ ⟨k, ev y, h, id, nb⟩ :: S.drop (cutE lt k L), hS, ?_, hz.1, hz.2, rfl⟩
      rw [List.map_append, List.map_append, List.map_cons, List.map_cons, List.map_take, List.map_take, List.map_drop, List.map_drop, hmap]
      rfl
  · rw [hpe]
    intro x hx
    rcases List.mem_append.1 hx with hx | hx
    · exact hts x (List.mem_of_mem_take hx)
    · rcases List.mem_cons.1 hx with rfl | hx
      · exact ⟨h1, h12⟩
      · exact hts x (List.mem_of_mem_drop hx)
  · rintro x (hx | hx | ⟨e, he, hx⟩)
    · exact .inl (.inl hx)
    · rcases hli with e | ⟨q, e, hq⟩
      · exact .inl (.inr (.inl (by rw [← e]; exact hx)))
      · rw [e] at hx
        cases hx
        exact .inr hq
    · rcases insT_mem he with rfl | he
      · right; rw [← hx]; exact hnb
      · exact .inl (.inr (.inr ⟨e, he, hx⟩))
end
end Go.Proofs.Ytcbkjhbneigkaaa
/- Strings as keys: their order. -/

namespace Go.Proofs.Ytcbkjhbneigkaaa
open Go.RowKit
set_option linter.unusedVariables false
set_option linter.unusedSimpArgs false

def blt (u v : ByteArray) : Bool := ahead u v
theorem blt_ord : KOrd blt := ⟨ahead_irrefl, fun a b c h1 h2 => ahead_trans h1 h2, ahead_tri⟩
theorem blt_less {u v : ByteArray} {z : Bool} (h : blt u v = z) : Op.bytesLess u.toList v.toList = z := by rw [bo_lt]; exact h
theorem str_same {u v : ByteArray} (h : u = v) : (u.toList == v.toList) = true := by rw [bo_same]; exact decide_eq_true h
theorem str_diff {u v : ByteArray} (h : ¬ u = v) : (u.toList == v.toList) = false := by rw [bo_same]; exact decide_eq_false h
theorem infoStr05 : (Try.prog.info? 9).map (fun i => (i.zero, i.size, i.bytes)) = some (some (.string ByteArray.empty), 1, 16) := by kernel_rfl
end Go.Proofs.Ytcbkjhbneigkaaa
/- Put of a key that is there. -/

namespace Go.Proofs.Ytcbkjhbneigkaaa
open Go.RowKit
set_option linter.unusedVariables false
set_option linter.unusedSimpArgs false

end Go.Proofs.Ytcbkjhbneigkaaa
/- Next. -/

namespace Go.Proofs.Ytcbkjhbneigkaaa
open Go.RowKit
set_option linter.unusedVariables false
set_option linter.unusedSimpArgs false

end Go.Proofs.Ytcbkjhbneigkaaa
/- The list's contracts over its entries. -/

namespace Go.Proofs.Ytcbkjhbneigkaaa
open Go.RowKit
set_option linter.unusedVariables false
set_option linter.unusedSimpArgs false

/-- what is told of entry i -/
def tkE (L : List (E3 Int Int)) (i : Nat) : Int := if h : i < L.length then L[i].k else 0
def tvE (L : List (E3 Int Int)) (i : Nat) : Int := if h : i < L.length then L[i].v else 0
def tbE (L : List (E3 Int Int)) (i : Nat) : Bool := decide (i < L.length)
def cI (L : List (E3 Int Int)) (k : Int) : Nat := cutE ilt k L
def hI (L : List (E3 Int Int)) (k : Int) : Bool := hasE L (cutE ilt k L) k
def ceilE (L : List (E3 Int Int)) (k : Int) : Nat := cI L k
def prevE (L : List (E3 Int Int)) (k : Int) : Nat := if cI L k = 0 then L.length else cI L k - 1
def floorE (L : List (E3 Int Int)) (k : Int) : Nat := if hI L k = true then cI L k else prevE L k
def nextE (L : List (E3 Int Int)) (k : Int) : Nat := if hI L k = true then cI L k + 1 else cI L k
def getE (L : List (E3 Int Int)) (k : Int) : Nat := if hI L k = true then cI L k else L.length
def htE (L : List (E3 Int Int)) (k : Int) : Nat := if hI L k = true then (if h : cI L k < L.length then L[cI L k].h else 0) else 0

theorem prev_place {T : List (SE Int)} {L : List (E3 Int Int)} (g : Good ilt (.int .i64) 0 0 T L) (k : Int) : (prevE L k < L.length ∧ cutE ilt k L + 1 - 1 = prevE L k + 1) ∨ (L.length ≤ prevE L k ∧ cutE ilt k L + 1 - 1 = 0) := by
  have hc := cutE_le ilt k L
  unfold prevE cI
  by_cases hx : cutE ilt k L = 0
  · rw [if_pos hx]; exact .inr ⟨Nat.le_refl _, by omega⟩
  · rw [if_neg hx]; exact .inl ⟨by omega, by omega⟩
theorem fnd_is {T : List (SE Int)} {L : List (E3 Int Int)} (g : Good ilt (.int .i64) 0 0 T L) (k : Int) : (hI L k = true ∧ cutE ilt k L < L.length ∧ fnd T (cutE ilt k L + 1) k = cutE ilt k L + 1) ∨ (hI L k = false ∧ fnd T (cutE ilt k L + 1) k = 0) := by
  have hTl := g.len
  cases hb : hI L k with
  | true =>
    obtain ⟨hc, hk⟩ := hasE_true.1 hb
    obtain ⟨e1, _, _⟩ := g.ent _ hc (by omega)
    refine .inl ⟨rfl, hc, ?_⟩
    unfold fnd
    rw [dif_pos (show cutE ilt k L + 1 < T.length by omega), if_pos (by rw [e1, hk])]
  | false =>
    refine .inr ⟨rfl, ?_⟩
    unfold fnd
    by_cases hlt : cutE ilt k L + 1 < T.length
    · rw [dif_pos hlt, if_neg (hasE_T g k hb hlt)]
    · rw [dif_neg hlt]
theorem keysT_E {T : List (SE Int)} {L : List (E3 Int Int)} (g : Good ilt (.int .i64) 0 0 T L) : keysT T T.length = L.map E3.k := by
  have hl := g.len
  unfold keysT
  rw [List.take_of_length_le (Nat.le_refl _)]
  refine List.ext_getElem (by simp; omega) fun i h1 h2 => ?_
  rw [List.length_map] at h2
  obtain ⟨e1, _, _⟩ := g.ent i h2 (by omega)
  simp only [List.getElem_map, List.getElem_drop]
  rw [← e1]
  simp only [Nat.add_comm 1 i]
end Go.Proofs.Ytcbkjhbneigkaaa
/- Plain laws of puts and of what stands beside a key. -/

namespace Go.Proofs.Ytcbkjhbneigkaaa
open Go.RowKit
set_option linter.unusedVariables false
set_option linter.unusedSimpArgs false
set_option linter.unusedSectionVars false

section
variable {κ ν : Type} [DecidableEq κ] {lt : κ → κ → Bool}
theorem keys_modify (L : List (E3 κ ν)) (c : Nat) (y : ν) : (L.modify c (setE y)).map E3.k = L.map E3.k := by
  refine List.ext_getElem (by simp) fun i h1 h2 => ?_
  simp only [List.getElem_map, List.getElem_modify]
  split <;> rfl
theorem putE_has {L : List (E3 κ ν)} {k : κ} (h : hasE L (cutE lt k L) k = true) (y : ν) (ht : Nat) : putE lt L k y ht = L.modify (cutE lt k L) (setE y) := if_pos h
theorem putE_no {L : List (E3 κ ν)} {k : κ} (h : hasE L (cutE lt k L) k = false) (y : ν) (ht : Nat) : putE lt L k y ht = L.take (cutE lt k L) ++ ⟨k, y, ht⟩ :: L.drop (cutE lt k L) := if_neg (by rw [h]; simp)
theorem putE_len (L : List (E3 κ ν)) (k : κ) (y : ν) (ht : Nat) : (putE lt L k y ht).length = if hasE L (cutE lt k L) k = true then L.length else L.length + 1 := by
  have hc := cutE_le lt k L
  cases h : hasE L (cutE lt k L) k with
  | true => rw [putE_has h, if_pos rfl, List.length_modify]
  | false =>
    rw [putE_no h, if_neg (by simp)]
    simp only [List.length_append, List.length_cons, List.length_take, List.length_drop]; omega
theorem putE_len_le (L : List (E3 κ ν)) (k : κ) (y : ν) (ht : Nat) : (putE lt L k y ht).length ≤ L.length + 1 := by
  rw [putE_len]; split <;> omega
theorem putE_keys (L : List (E3 κ ν)) (k : κ) (y : ν) (ht : Nat) (x : κ) : x ∈ (putE lt L k y ht).map E3.k ↔ x = k ∨ x ∈ L.map E3.k := by
  cases h : hasE L (cutE lt k L) k with
  | true =>
    rw [putE_has h, keys_modify]
    obtain ⟨hc, hk⟩ := hasE_true.1 h
    refine ⟨.inr, fun hx => hx.elim (fun e => ?_) id⟩
    rw [e, ← hk]
    exact List.mem_map.2 ⟨_, List.getElem_mem hc, rfl⟩
  | false =>
    rw [putE_no h, List.map_append, List.mem_append, List.map_cons, List.mem_cons]
    have e : L.map E3.k = (L.take (cutE lt k L)).map E3.k ++ (L.drop (cutE lt k L)).map E3.k := by rw [← List.map_append, List.take_append_drop]
    rw [e, List.mem_append]
    simp only
    constructor
    · rintro (h | h | h)
      · exact .inr (.inl h)
      · exact .inl h
      · exact .inr (.inr h)
    · rintro (h | h | h)
      · exact .inr (.inl h)
      · exact .inl h
      · exact .inr (.inr h)
theorem putE_hts {L : List (E3 κ ν)} (hts : ∀ x ∈ L, 1 ≤ x.h ∧ x.h ≤ 12) (k : κ) (y : ν) (ht : Nat) (h1 : 1 ≤ ht) (h2 : ht ≤ 12) : ∀ x ∈ putE lt L k y ht, 1 ≤ x.h ∧ x.h ≤ 12 := by
  cases h : hasE L (cutE lt k L) k with
  | true =>
    rw [putE_has h]
    intro x hx
    obtain ⟨i, hi, rfl⟩ := List.getElem_of_mem hx
    have hi' : i < L.length := by simpa using hi
    have := hts _ (List.getElem_mem hi')
    rw [List.getElem_modify]
    split <;> exact this
  | false =>
    rw [putE_no h]
    intro x hx
    rcases List.mem_append.1 hx with hx | hx
    · exact hts x (List.mem_of_mem_take hx)
    · rcases List.mem_cons.1 hx with rfl | hx
      · exact ⟨h1, h2⟩
      · exact hts x (List.mem_of_mem_drop hx)
theorem cutE_eq (k : κ) : ∀ (L : List (E3 κ ν)) (c : Nat), c ≤ L.length → (∀ j (hj : j < L.length), j < c → lt L[j].k k = true) → (∀ j (hj : j < L.length), c ≤ j → lt L[j].k k = false) → cutE lt k L = c
  | [], c, hc, _, _ => by simp at hc; subst hc; rfl
  | e :: R, 0, _, _, h2 => by
    have h := h2 0 (by simp) (Nat.le_refl _)
    simp only [List.getElem_cons_zero] at h
    unfold cutE; rw [if_neg (by rw [h]; simp)]
  | e :: R, c + 1, hc, h1, h2 => by
    have h := h1 0 (by simp) (by omega)
    simp only [List.getElem_cons_zero] at h
    unfold cutE; rw [if_pos h]
    rw [cutE_eq k R c (by simpa using hc) (fun j hj hjc => h1 (j + 1) (by simpa using hj) (by omega)) (fun j hj hjc => h2 (j + 1) (by simpa using hj) (by omega))]
theorem cutE_at (o : KOrd lt) {L : List (E3 κ ν)} (hr : ERise lt L) (i : Nat) (hi : i < L.length) : cutE lt L[i].k L = i := by
  refine cutE_eq _ L i (by omega) (fun j hj hji => erise_at hr j i hj hi hji) (fun j hj hij => ?_)
  rcases Nat.eq_or_lt_of_le hij with rfl | hlt
  · exact o.irrefl _
  · cases h : lt L[j].k L[i].k with
    | false => rfl
    | true =>
      have h1 := erise_at hr i j hi hj hlt
      have h2 := o.trans _ _ _ h1 h
      rw [o.irrefl] at h2; cases h2
theorem hasE_at (o : KOrd lt) {L : List (E3 κ ν)} (hr : ERise lt L) (i : Nat) (hi : i < L.length) : hasE L (cutE lt L[i].k L) L[i].k = true :=
  hasE_true.2 (by rw [cutE_at o hr i hi]; exact ⟨hi, rfl⟩)
theorem hasE_mem (o : KOrd lt) {L : List (E3 κ ν)} (hr : ERise lt L) (k : κ) : hasE L (cutE lt k L) k = true ↔ k ∈ L.map E3.k := by
  constructor
  · intro h
    obtain ⟨hc, hk⟩ := hasE_true.1 h
    rw [← hk]; exact List.mem_map.2 ⟨_, List.getElem_mem hc, rfl⟩
  · intro h
    obtain ⟨e, he, rfl⟩ := List.mem_map.1 h
    obtain ⟨i, hi, rfl⟩ := List.getElem_of_mem he
    exact hasE_at o hr i hi
end
theorem tkE_at {L : List (E3 Int Int)} {i : Nat} (h : i < L.length) : tkE L i = L[i].k := dif_pos h
theorem tvE_at {L : List (E3 Int Int)} {i : Nat} (h : i < L.length) : tvE L i = L[i].v := dif_pos h
theorem tbE_true {L : List (E3 Int Int)} {i : Nat} : tbE L i = true ↔ i < L.length := decide_eq_true_iff
theorem tbE_false {L : List (E3 Int Int)} {i : Nat} : tbE L i = false ↔ L.length ≤ i := by unfold tbE; rw [decide_eq_false_iff_not]; omega
/-- what stands beside a key that is not there -/
structure Btw (K : List Int) (k : Int) (low high : Int) (a b : Bool) : Prop where
  ne : ∀ x ∈ K, x ≠ k
  a1 : a = true → low < k
  b1 : b = true → k < high
  a2 : ∀ x ∈ K, a = true → x < k → x ≤ low
  b2 : ∀ x ∈ K, b = true → k < x → high ≤ x
  a3 : ∀ x ∈ K, a = false → k < x
  b3 : ∀ x ∈ K, b = false → x < k
theorem btw {L : List (E3 Int Int)} (hr : ERise ilt L) (K : List Int) (hK : ∀ x ∈ K, x ∈ L.map E3.k) (k : Int) (hf : hI L k = false) :
    Btw K k (tkE L (floorE L k)) (tkE L (ceilE L k)) (tbE L (floorE L k)) (tbE L (ceilE L k)) := by
  have hc := cutE_le ilt k L
  have hlo : ∀ j (hj : j < L.length), j < cutE ilt k L → L[j].k < k := fun j hj h => of_decide_eq_true (cutE_below (lt := ilt) k L j hj h)
  have hhi : ∀ j (hj : j < L.length), cutE ilt k L ≤ j → k < L[j].k := fun j hj h => by
    have h1 : ¬ L[j].k < k := of_decide_eq_false (cutE_above ilt_ord k L hr j hj h)
    have h2 : L[j].k ≠ k := fun e => by
      have h3 := (hasE_mem ilt_ord hr k).2 (List.mem_map.2 ⟨_, List.getElem_mem hj, e⟩)
      rw [show hasE L (cutE ilt k L) k = false from hf] at h3; cases h3
    omega
  have hri : ∀ i j (hi : i < L.length) (hj : j < L.length), i ≤ j → L[i].k ≤ L[j].k := fun i j hi hj hij => by
    rcases Nat.eq_or_lt_of_le hij with rfl | h
    · exact Int.le_refl _
    · exact Int.le_of_lt (of_decide_eq_true (erise_at hr i j hi hj h))
  have hfl : floorE L k = prevE L k := by unfold floorE; rw [if_neg (by rw [hf]; simp)]
  have hce : ceilE L k = cutE ilt k L := rfl
  have hget : ∀ x ∈ K, ∃ j, ∃ hj : j < L.length, L[j].k = x := fun x hx => by
    obtain ⟨e, he, rfl⟩ := List.mem_map.1 (hK x hx)
    obtain ⟨i, hi, rfl⟩ := List.getElem_of_mem he
    exact ⟨i, hi, rfl⟩
  rw [hfl, hce]
  have hpv : tbE L (prevE L k) = true → 0 < cutE ilt k L ∧ prevE L k = cutE ilt k L - 1 := fun h => by
    rw [tbE_true] at h
    unfold prevE cI at h ⊢
    split at h
    · omega
    · rename_i h0; rw [if_neg h0]; exact ⟨by omega, rfl⟩
  have hpn : tbE L (prevE L k) = false → cutE ilt k L = 0 := fun h => by
    rw [tbE_false] at h
    unfold prevE cI at h
    split at h
    · assumption
    · omega
  refine ⟨?_, ?_, ?_, ?_, ?_, ?_, ?_⟩
  · intro x hx e
    obtain ⟨j, hj, rfl⟩ := hget x hx
    have h3 := (hasE_mem ilt_ord hr k).2 (List.mem_map.2 ⟨_, List.getElem_mem hj, e⟩)
    rw [show hasE L (cutE ilt k L) k = false from hf] at h3; cases h3
  · intro h
    obtain ⟨h0, e⟩ := hpv h
    rw [e, tkE_at (by omega)]; exact hlo _ _ (by omega)
  · intro h
    rw [tbE_true] at h
    rw [tkE_at h]; exact hhi _ _ (Nat.le_refl _)
  · intro x hx h hxk
    obtain ⟨j, hj, rfl⟩ := hget x hx
    obtain ⟨h0, e⟩ := hpv h
    rw [e, tkE_at (by omega)]
    refine hri _ _ _ _ ?_
    rcases Nat.lt_or_ge j (cutE ilt k L) with h | h
    · omega
    · have := hhi j hj h; omega
  · intro x hx h hxk
    obtain ⟨j, hj, rfl⟩ := hget x hx
    rw [tbE_true] at h
    rw [tkE_at h]
    refine hri _ _ _ _ ?_
    rcases Nat.lt_or_ge j (cutE ilt k L) with h | h
    · have := hlo j hj h; omega
    · omega
  · intro x hx h
    obtain ⟨j, hj, rfl⟩ := hget x hx
    exact hhi j hj (by rw [hpn h]; omega)
  · intro x hx h
    obtain ⟨j, hj, rfl⟩ := hget x hx
    rw [tbE_false] at h
    exact hlo j hj (by omega)
/-- the one behind the one below -/
theorem btw_next {L : List (E3 Int Int)} (hr : ERise ilt L) (k : Int) (hf : hI L k = false) (ha : tbE L (floorE L k) = true) :
    tbE L (nextE L (tkE L (floorE L k))) = tbE L (ceilE L k) ∧ tkE L (nextE L (tkE L (floorE L k))) = tkE L (ceilE L k) := by
  have hc := cutE_le ilt k L
  have hfl : floorE L k = prevE L k := by unfold floorE; rw [if_neg (by rw [hf]; simp)]
  have hpv : 0 < cutE ilt k L ∧ floorE L k = cutE ilt k L - 1 := by
    rw [tbE_true, hfl] at ha
    rw [hfl]
    unfold prevE cI at ha ⊢
    split at ha
    · omega
    · rename_i h0; rw [if_neg h0]; exact ⟨by omega, rfl⟩
  obtain ⟨h0, e⟩ := hpv
  have hx : nextE L (tkE L (floorE L k)) = ceilE L k := by
    have hlt : cutE ilt k L - 1 < L.length := by omega
    rw [e, tkE_at hlt]
    unfold nextE hI cI
    rw [hasE_at ilt_ord hr _ hlt, if_pos rfl, cutE_at ilt_ord hr _ hlt]
    show _ = cutE ilt k L
    omega
  rw [hx]; exact ⟨rfl, rfl⟩
/-- what is told of a key that is there -/
theorem has_tells {L : List (E3 Int Int)} {k : Int} (h : hI L k = true) : ∃ hc : cI L k < L.length, L[cI L k].k = k ∧ getE L k = cI L k ∧ floorE L k = cI L k ∧ ceilE L k = cI L k := by
  obtain ⟨hc, hk⟩ := hasE_true.1 h
  exact ⟨hc, hk, if_pos h, if_pos h, rfl⟩
theorem tb_get (L : List (E3 Int Int)) (k : Int) : tbE L (getE L k) = hI L k := by
  cases h : hI L k with
  | true => obtain ⟨hc, _, e, _⟩ := has_tells h; rw [e]; exact tbE_true.2 hc
  | false => unfold getE; rw [if_neg (by rw [h]; simp)]; exact tbE_false.2 (Nat.le_refl _)
end Go.Proofs.Ytcbkjhbneigkaaa
