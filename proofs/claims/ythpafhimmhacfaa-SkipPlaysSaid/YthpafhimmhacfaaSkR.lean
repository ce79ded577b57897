/- A key put again; a row of keys, read. -/
import Derived.Test.YthpafhimmhacfaaSkQ
import Derived.Test.YthpafhimmhacfaaInts
namespace Go.Proofs.Ythpafhimmhacfaa
open Go.RowKit
set_option linter.unusedVariables false
set_option linter.unusedSimpArgs false
set_option linter.unusedSectionVars false

section
variable {κ ν : Type} [DecidableEq κ] {lt : κ → κ → Bool}
theorem cutE_keys (k : κ) : ∀ {L L' : List (E3 κ ν)}, L.map E3.k = L'.map E3.k → cutE lt k L = cutE lt k L'
  | [], [], _ => rfl
  | [], _ :: _, h => by simp at h
  | _ :: _, [], h => by simp at h
  | e :: R, e' :: R', h => by
    simp only [List.map_cons, List.cons.injEq] at h
    unfold cutE
    rw [h.1, cutE_keys k h.2]
theorem hasE_keys (k : κ) {L L' : List (E3 κ ν)} (h : L.map E3.k = L'.map E3.k) (c : Nat) : hasE L c k = hasE L' c k := by
  have hl : L.length = L'.length := by simpa using congrArg List.length h
  unfold hasE
  by_cases hc : c < L.length
  · rw [dif_pos hc, dif_pos (by omega)]
    have h1 : (L.map E3.k)[c]? = (L'.map E3.k)[c]? := by rw [h]
    rw [List.getElem?_map, List.getElem?_map, List.getElem?_eq_getElem hc, List.getElem?_eq_getElem (by omega : c < L'.length)] at h1
    simp only [Option.map_some, Option.some.injEq] at h1
    rw [h1]
  · rw [dif_neg hc, dif_neg (by omega)]
end
/-- what a key that is put again turns -/
theorem again_facts {L : List (E3 Int Int)} {k : Int} (h : hI L k = true) (y : Int) (ht : Nat) :
    (putE ilt L k y ht).length = L.length ∧ (putE ilt L k y ht).map E3.k = L.map E3.k ∧ htE (putE ilt L k y ht) k = htE L k ∧ tvE (putE ilt L k y ht) (getE (putE ilt L k y ht) k) = y ∧ tbE (putE ilt L k y ht) (getE (putE ilt L k y ht) k) = true := by
  obtain ⟨hc, hk⟩ := hasE_true.1 h
  have e : putE ilt L k y ht = L.modify (cutE ilt k L) (setE y) := putE_has h y ht
  have hm : (L.modify (cutE ilt k L) (setE y)).map E3.k = L.map E3.k := keys_modify L _ y
  have hl : (L.modify (cutE ilt k L) (setE y)).length = L.length := List.length_modify ..
  have hcu : cI (L.modify (cutE ilt k L) (setE y)) k = cutE ilt k L := cutE_keys k hm
  have hh : hI (L.modify (cutE ilt k L) (setE y)) k = true := by
    unfold hI
    rw [show cutE ilt k (L.modify (cutE ilt k L) (setE y)) = cutE ilt k L from hcu, hasE_keys k hm]; exact h
  have hg : getE (L.modify (cutE ilt k L) (setE y)) k = cutE ilt k L := by unfold getE; rw [if_pos hh, hcu]
  rw [e]
  refine ⟨hl, hm, ?_, ?_, ?_⟩
  · have h1 : htE L k = L[cutE ilt k L].h := by unfold htE; rw [if_pos h, show cI L k = cutE ilt k L from rfl, dif_pos hc]
    rw [h1]
    unfold htE
    rw [if_pos hh]
    have hc2 : cI (L.modify (cutE ilt k L) (setE y)) k < (L.modify (cutE ilt k L) (setE y)).length := by rw [hcu, hl]; exact hc
    rw [dif_pos hc2]
    simp only [hcu, List.getElem_modify, if_pos]
    rfl
  · rw [hg, tvE_at (by rw [hl]; exact hc)]
    simp only [List.getElem_modify, if_pos]
    rfl
  · rw [hg]; exact tbE_true.2 (by rw [hl]; exact hc)
/-- a row of ints, read -/
def KR (w : World) (a : Option Addr) (l : List Int) : Prop :=
  0 < l.length → ∃ b off, a = some ⟨b, off, none⟩ ∧ ∀ i (h : i < l.length), w.cell? ⟨b, off + i, none⟩ = some (.int .i64 l[i])
theorem KR.below {w w' : World} {a : Option Addr} {l : List Int} (h : KR w a l) (hb : Below w.heap.size w w') : KR w' a l := fun hl => by
  obtain ⟨b, off, rfl, hc⟩ := h hl
  exact ⟨b, off, rfl, fun i hi => cell_next (hc i hi) _ hb⟩
/-- .. in a block of B or later -/
def KRG (w : World) (B : Nat) (a : Option Addr) (l : List Int) : Prop :=
  0 < l.length → ∃ b off, a = some ⟨b, off, none⟩ ∧ B ≤ b ∧ ∀ i (h : i < l.length), w.cell? ⟨b, off + i, none⟩ = some (.int .i64 l[i])
theorem KRG.kr {w : World} {B : Nat} {a : Option Addr} {l : List Int} (h : KRG w B a l) : KR w a l := fun hl => by
  obtain ⟨b, off, rfl, _, hc⟩ := h hl
  exact ⟨b, off, rfl, hc⟩
theorem KRG.chg {w w' : World} {B : Nat} {a : Option Addr} {l : List Int} {F : Nat → Prop} (h : KRG w B a l) (hc : Chg F w w') (hF : ∀ k, F k → k < B) : KRG w' B a l := fun hl => by
  obtain ⟨b, off, rfl, hb, hcl⟩ := h hl
  refine ⟨b, off, rfl, hb, fun i hi => ?_⟩
  have hbw : b < w.heap.size := World.block_lt_of_cell? w _ (hcl i hi)
  have e1 := hc.block b hbw (fun e => by have := hF b e; omega)
  have e := hcl i hi
  unfold World.cell? at e ⊢
  simp only [e1]
  exact e
theorem KR.cell {w wr : World} {a : Option Addr} {l : List Int} (h : KR w a l) (hb : Below w.heap.size w wr) (k : Nat) (hk : k < l.length) :
    ∃ b off, a = some ⟨b, off, none⟩ ∧ wr.cell? ⟨b, off + k, none⟩ = some (.int .i64 l[k]) := by
  obtain ⟨b, off, rfl, hc⟩ := h (by omega)
  exact ⟨b, off, rfl, cell_next (hc k hk) _ hb⟩
theorem keys_kr {w : World} {B C : Nat} {u : Value} {n : Nat} {l : List Int} (h : w.ownsRow B 3 1 u n (evs l)) (hn : n = l.length) (hC : C ≤ B) : ∃ a c, u = .slice a l.length c ∧ l.length ≤ c ∧ KRG w C a l := by
  subst hn
  obtain ⟨ao, c, rfl, hlc, _, hs⟩ := row_shape h
  refine ⟨ao, c, rfl, hlc, fun hl => ?_⟩
  obtain ⟨g, rfl, hg, _⟩ := hs hl
  refine ⟨g, 0, rfl, by omega, fun i hi => ?_⟩
  rw [Nat.zero_add, World.ownsRow.cellAt h _ (by omega)]
  simp [evs, hi]
end Go.Proofs.Ythpafhimmhacfaa
