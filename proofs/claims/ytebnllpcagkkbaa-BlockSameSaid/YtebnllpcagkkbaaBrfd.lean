/- The document's Find; lists of strings; plain laws for Find. -/
import Derived.Test.YtebnllpcagkkbaaBfnd2
import Derived.Test.YtebnllpcagkkbaaBkpl
namespace Go.Proofs.Ytebnllpcagkkbaa
open Go.RowKit
set_option linter.unusedVariables false
set_option linter.unusedSimpArgs false

set_option maxRecDepth 100000 in
set_option maxHeartbeats 4000000 in
theorem reffind_any {w : World} {a : Option Addr} {c : Nat} {L : List PairD} (h : PRs w a L) (hl : L.length ≤ maxLen) (key : ByteArray) (hk : key.size ≤ maxLen) :
    Calls Try.prog 25 #[.slice a L.length c, .string key] w fun e w' => ∃ j : Nat, e = .returned (.int .i64 j) ∧ FirstGe L key j ∧ Below w.heap.size w w' := by
  unfold maxLen at hl
  have H := Lib.hid h
  clear h
  have Hk := Lib.hid hk
  clear hk
  go_enter Try.func25, Try.ntmps25
  go_wp2
  go_loopw [5] (fun i wr => ∃ k : Nat, k ≤ L.length ∧ i = .int .i64 k ∧ (∀ t, t < k → ahead (pAt L t).key key = true) ∧ Below w.heap.size w wr) (fun i _ => L.length - (intOf i).toNat)
  case atStart => exact ⟨0, Nat.zero_le _, rfl, fun t h => by omega, Below.refl _ _⟩
  case round =>
    obtain ⟨k, hk, rfl, hall, hb⟩ := hrel
    have Hall := Lib.hid hall
    clear hall
    by_cases hlt : k < L.length
    · obtain ⟨b, off, rfl, f0, f1⟩ := H.out.cells hb k hlt
      have ok := (H.out.2 _ (List.getElem_mem hlt)).1
      rw [← pAt_get hlt] at f0 f1 ok
      have hor := fun W => order12_any (pAt L k).key key W ok Hk.out
      have Hor := Lib.hid hor
      have hah : ahead (pAt L k).key key = decide (Lib.compareBytes (pAt L k).key.data.toList key.data.toList < 0) := rfl
      have Hah := Lib.hid hah
      clear hor hah ok
      generalize hcc : Lib.compareBytes (pAt L k).key.data.toList key.data.toList = cc at *
      generalize hy : pAt L k = y at f0 f1 Hor
      have Hy := Lib.hid hy
      clear hcc hy
      by_cases hc : cc < 0
      · have Hx : Hid (∀ t, t < k + 1 → ahead (pAt L t).key key = true) := Lib.hid fun t ht => by
          by_cases e : t = k
          · rw [e, Hah.out]; exact decide_eq_true hc
          · exact Hall.out t (by omega)
        go_wp2_with fail; (with_reducible refine (Hor.out _).mono ?_); rintro e w2 ⟨rfl, hb2⟩
        go_wp2
        go_roundw
        case rel => exact ⟨k + 1, by omega, by go_num, Hx.out, bnext hb hb2⟩
        case measure => simp [intOf]; omega
      · have hc' : 0 ≤ cc := by omega
        go_wp2_with fail; (with_reducible refine (Hor.out _).mono ?_); rintro e w2 ⟨rfl, hb2⟩
        go_wp2
        go_ret
        exact ⟨k, rfl, ⟨hk, Hall.out, fun _ => by rw [Hah.out]; exact decide_eq_false (by omega)⟩, bnext hb hb2⟩
    · obtain rfl : k = L.length := by omega
      go_wp2
      go_ret
      exact ⟨L.length, rfl, ⟨Nat.le_refl _, Hall.out, fun h => absurd h (Nat.lt_irrefl _)⟩, hb⟩

theorem firstGe_self {L : List PairD} (hr : risesB L = true) {i : Nat} (hi : i < L.length) : FirstGe L (pAt L i).key i :=
  ⟨Nat.le_of_lt hi, fun t ht => rises_lt hr t i ht hi, fun _ => ahead_irrefl _⟩
theorem bo_zero : ∀ u v : List UInt8, (Lib.compareBytes u v < 0 ↔ ¬ Lib.compareBytes v (u ++ [0]) < 0)
  | [], [] => by decide
  | [], c :: v => by
    rw [List.nil_append, bo_cons]
    have h0 : (0 : UInt8).toNat = 0 := rfl
    have h1 : Lib.compareBytes [] (c :: v) = -1 := rfl
    rw [h1, if_neg (by omega)]
    constructor
    · intro _ h
      by_cases h2 : (0 : UInt8).toNat < c.toNat
      · rw [if_pos h2] at h; cases h
      · rw [if_neg h2] at h
        cases v with
        | nil => cases h
        | cons d v => cases h
    · intro _; decide
  | c :: u, [] => by
    have h1 : Lib.compareBytes (c :: u) [] = 1 := rfl
    have h2 : Lib.compareBytes [] (c :: u ++ [0]) = -1 := rfl
    rw [h1, h2]; decide
  | c :: u, d :: v => by
    have ih := bo_zero u v
    rw [List.cons_append, bo_cons, bo_cons]
    by_cases h1 : c.toNat < d.toNat
    · rw [if_pos h1, if_neg (by omega), if_pos h1]; decide
    · by_cases h2 : d.toNat < c.toNat
      · rw [if_neg h1, if_pos h2, if_pos h2]; decide
      · rw [if_neg h1, if_neg h2, if_neg h2, if_neg h1]; exact ih
theorem ahead_zero (u v : ByteArray) : ahead v (u ++ ⟨#[0]⟩) = !ahead u v := by
  have h := bo_zero u.data.toList v.data.toList
  unfold ahead
  have e : (u ++ ⟨#[0]⟩ : ByteArray).data.toList = u.data.toList ++ [0] := by rw [ByteArray.data_append, Array.toList_append]
  rw [e]
  by_cases h1 : Lib.compareBytes u.data.toList v.data.toList < 0
  · rw [decide_eq_true h1, decide_eq_false (h.1 h1)]; rfl
  · have h2 : Lib.compareBytes v.data.toList (u.data.toList ++ [0]) < 0 := Decidable.byContradiction fun h3 => h1 (h.2 h3)
    rw [decide_eq_false h1, decide_eq_true h2]; rfl
theorem firstGe_next {L : List PairD} (hr : risesB L = true) {i : Nat} (hi : i < L.length) : FirstGe L ((pAt L i).key ++ ⟨#[0]⟩) (i + 1) := by
  refine ⟨hi, fun t ht => ?_, fun h => ?_⟩
  · rw [ahead_zero]
    by_cases e : t = i
    · rw [e, ahead_irrefl]; rfl
    · have h1 := rises_lt hr t i (by omega) hi
      cases h2 : ahead (pAt L i).key (pAt L t).key with
      | false => rfl
      | true => have := ahead_trans h1 h2; rw [ahead_irrefl] at this; cases this
  · rw [ahead_zero, rises_lt hr i (i + 1) (by omega) h]; rfl

/-- a slice of strings -/
def SRs (w : World) (a : Option Addr) (l : List ByteArray) : Prop :=
  (0 < l.length → ∃ b off, a = some ⟨b, off, none⟩ ∧ ∀ i (h : i < l.length), w.cell? ⟨b, off + i, none⟩ = some (.string l[i])) ∧ ∀ x ∈ l, x.size ≤ maxLen
theorem SRs.cell {w wr : World} {a : Option Addr} {l : List ByteArray} (h : SRs w a l) (hb : Below w.heap.size w wr) (k : Nat) (hk : k < l.length) :
    ∃ b off, a = some ⟨b, off, none⟩ ∧ wr.cell? ⟨b, off + k, none⟩ = some (.string l[k]) ∧ l[k].size ≤ maxLen := by
  obtain ⟨b, off, rfl, hc⟩ := h.1 (by omega)
  exact ⟨b, off, rfl, cell_next (hc k hk) _ hb, h.2 _ (List.getElem_mem hk)⟩
end Go.Proofs.Ytebnllpcagkkbaa
