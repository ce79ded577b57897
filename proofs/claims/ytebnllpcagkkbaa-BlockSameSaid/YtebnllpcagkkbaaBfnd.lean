/- (*block.Block).Find, and the document's. -/
import Derived.Test.YtebnllpcagkkbaaBlk2
namespace Go.Proofs.Ytebnllpcagkkbaa
open Go.RowKit
set_option linter.unusedVariables false
set_option linter.unusedSimpArgs false

/-- j is the place of the first that is not below -/
def FirstGe (L : List PairD) (key : ByteArray) (j : Nat) : Prop := j ≤ L.length ∧ (∀ t, t < j → ahead (pAt L t).key key = true) ∧ (j < L.length → ahead (pAt L j).key key = false)
theorem firstGe_unique {L : List PairD} {key : ByteArray} {i j : Nat} (h : FirstGe L key i) (k : FirstGe L key j) : i = j := by
  obtain ⟨h1, h2, h3⟩ := h
  obtain ⟨k1, k2, k3⟩ := k
  rcases Nat.lt_trichotomy i j with hh | hh | hh
  · have := h3 (by omega); rw [k2 i hh] at this; cases this
  · exact hh
  · have := k3 (by omega); rw [h2 j hh] at this; cases this

/-- the boxes that the closures of Find hold -/
def FBx (w : World) (q2 q3 x : Nat) (key : ByteArray) : Prop := w.cell? ⟨q2, 0, none⟩ = some (.pointer (some ⟨x, 0, none⟩)) ∧ w.cell? ⟨q3, 0, none⟩ = some (.string key)
theorem FBx.below {w w' : World} {q2 q3 x : Nat} {key : ByteArray} (h : FBx w q2 q3 x key) (hb : Below w.heap.size w w') : FBx w' q2 q3 x key := ⟨cell_next h.1 _ hb, cell_next h.2 _ hb⟩
section
variable {w : World} {q2 q3 x : Nat} {key : ByteArray} {a : Option Addr} {c : Nat} {L : List PairD} {ev : Nat}
set_option maxHeartbeats 2000000 in
theorem find1_any (hb : BK w x a c L ev) (hf : FBx w q2 q3 x key) (hl : L.length ≤ 100000) (hev : ev ≤ 64) (i : Nat) (hi : i * ev < L.length) :
    Calls Try.prog 39 #[.int .i64 i, .pointer (some ⟨q2, 0, none⟩), .pointer (some ⟨q3, 0, none⟩)] w fun e w' => e = .returned (.bool (ahead key (pAt L (i * ev)).key)) ∧ Below w.heap.size w w' := by
  obtain ⟨k0, k1, _⟩ := cell_two hb.1
  obtain ⟨b, off, rfl, f0, _⟩ := hb.2.cells (Below.refl _ w) (i * ev) hi
  rw [← pAt_get hi] at f0
  obtain ⟨e2, e3⟩ := hf
  have hcm := fun W => cmpstr (pAt L (i * ev)).key key W
  have Hcm : Hid (∀ W : World, Calls Try.prog 40 #[.string (pAt L (i * ev)).key, .string key] W fun e w' => e = .returned (.int .i64 (Lib.compareBytes (pAt L (i * ev)).key.data.toList key.data.toList)) ∧ w' = W) := Lib.hid fun W => (hcm W).mono fun e w' h => ⟨h.1, h.2.symm⟩
  have hah : ahead key (pAt L (i * ev)).key = decide (0 < Lib.compareBytes (pAt L (i * ev)).key.data.toList key.data.toList) := by
    unfold ahead
    rw [bo_anti (pAt L (i * ev)).key.data.toList key.data.toList]
    exact decide_eq_decide.2 (by omega)
  rw [hah]
  clear hcm hah hb
  generalize Lib.compareBytes (pAt L (i * ev)).key.data.toList key.data.toList = cc at *
  generalize (pAt L (i * ev)).key = y at *
  have hi0 : i ≤ 100000 ∨ ev = 0 := by
    rcases Nat.eq_zero_or_pos ev with h | h
    · exact .inr h
    · have := Nat.le_mul_of_pos_right i h; exact .inl (by omega)
  obtain ⟨m, hm⟩ : ∃ m, i * ev = m := ⟨_, rfl⟩
  rw [hm] at hi f0
  have hmI : (i : Int) * (ev : Int) = (m : Int) := by rw [← hm]; exact (Int.natCast_mul i ev).symm
  have hw : IntKind.i64.wrap ((i : Int) * (ev : Int)) = (m : Int) := by rw [hmI]; exact IntWalk.i64_in _ (by omega)
  have hm0 : (0 : Int) ≤ (m : Int) := by omega
  have hm1 : (m : Int) < (L.length : Int) := by omega
  have hmI2 := Lib.hid hmI
  clear hm hmI
  go_enter Try.func39, Try.ntmps39
  go_wp2_with fail
  go_quiet ((go_at_call 40; (with_reducible refine Calls.quiet_of_same (Hcm.out _))))
  go_wp2
  go_ret
  exact ⟨rfl, below_drewN (Below.refl _ _) _⟩
set_option maxHeartbeats 2000000 in
theorem find2_any (hf : w.cell? ⟨q3, 0, none⟩ = some (.string key)) (y : PairD) :
    Calls Try.prog 42 #[.agg #[.string y.key, .string y.val], .pointer (some ⟨q3, 0, none⟩)] w fun e w' => e = .returned (.bool (!ahead y.key key)) ∧ Below w.heap.size w w' := by
  have hq := World.block_lt_of_cell? w _ hf
  have hlt := bo_lt y.key key
  go_enter Try.func42, Try.ntmps42
  go_wp2
  go_ret
  exact ⟨rfl, (Below.refl _ _).alloc (Nat.le_refl _) _⟩
set_option maxRecDepth 100000 in
set_option maxHeartbeats 4000000 in
theorem search_any (n : Nat) (cb : Array Value) (p : Nat → Bool) (hn : n ≤ 100000) (w : World)
    (hf : ∀ (W : World) (i : Nat), i < n → Below w.heap.size w W → Calls Try.prog 39 (#[.int .i64 i] ++ cb) W fun e w' => e = .returned (.bool (p i)) ∧ Below W.heap.size W w') :
    Calls Try.prog 38 #[.int .i64 n, .func (.func 39) #[] cb] w fun e w' => ∃ j : Nat, e = .returned (.int .i64 j) ∧ j ≤ n ∧ (0 < j → p (j - 1) = false) ∧ Below w.heap.size w w' := by
  have HF := Lib.hid hf
  have eg := enters_of Try.func39 (by kernel_rfl) rfl
  clear hf
  go_enter Try.func38, Try.ntmps38
  go_wp2
  go_loopg [5, 6] n (fun gk s5 s6 wr => ∃ lo hi : Nat, s5 = .int .i64 lo ∧ s6 = .int .i64 hi ∧ lo ≤ hi ∧ hi ≤ n ∧ hi - lo ≤ gk ∧ (0 < lo → p (lo - 1) = false) ∧ Below w.heap.size w wr)
  case atStart => exact ⟨0, n, rfl, rfl, Nat.zero_le _, Nat.le_refl _, by omega, fun h => by omega, Below.refl _ _⟩
  case round =>
    obtain ⟨lo, hi, rfl, rfl, h1, h2, h3, hlo, hb⟩ := hrel
    have Hlo := Lib.hid hlo
    clear hlo
    by_cases hlt : lo < hi
    · have hc := HF.out wr ((lo + hi) / 2) (by omega) hb
      rw [show (((lo + hi) / 2 : Nat) : Int) = ((lo : Int) + (hi : Int)) / 2 by omega] at hc
      cases hp : p ((lo + hi) / 2) with
      | false =>
        rw [hp] at hc
        have Hc := Lib.hid hc
        have Hp := Lib.hid hp
        clear hc hp
        go_wp2_with fail; (with_reducible refine (Hc.out).mono ?_); rintro e w2 ⟨rfl, hb2⟩
        go_wp2
        go_roundg (hi - ((lo + hi) / 2 + 1))
        case measure => omega
        case rel => exact ⟨(lo + hi) / 2 + 1, hi, by go_num, rfl, by omega, h2, by omega, fun _ => by rw [Nat.add_sub_cancel]; exact Hp.out, bnext hb hb2⟩
      | true =>
        rw [hp] at hc
        have Hc := Lib.hid hc
        clear hc hp
        go_wp2_with fail; (with_reducible refine (Hc.out).mono ?_); rintro e w2 ⟨rfl, hb2⟩
        go_wp2
        go_roundg ((lo + hi) / 2 - lo)
        case measure => omega
        case rel => exact ⟨lo, (lo + hi) / 2, rfl, by go_num, by omega, by omega, by omega, Hlo.out, bnext hb hb2⟩
    · obtain rfl : lo = hi := by omega
      go_wp2
      go_ret
      exact ⟨lo, rfl, h2, Hlo.out, hb⟩
set_option maxRecDepth 100000 in
set_option maxHeartbeats 4000000 in
theorem indexf_any (h : PRs w a L) (hl : L.length ≤ maxLen) (cb : Array Value) (p : PairD → Bool)
    (hf : ∀ (W : World) (y : PairD), Below w.heap.size w W → Calls Try.prog 42 (#[.agg #[.string y.key, .string y.val]] ++ cb) W fun e w' => e = .returned (.bool (p y)) ∧ Below W.heap.size W w') :
    Calls Try.prog 41 #[.slice a L.length c, .func (.func 42) #[] cb] w fun e w' => ((∃ j : Nat, e = .returned (.int .i64 j) ∧ j < L.length ∧ (∀ t, t < j → p (pAt L t) = false) ∧ p (pAt L j) = true) ∨ (e = .returned (.int .i64 (-1)) ∧ ∀ t, t < L.length → p (pAt L t) = false)) ∧ Below w.heap.size w w' := by
  unfold maxLen at hl
  have H := Lib.hid h
  have HF := Lib.hid hf
  have eg := enters_of Try.func42 (by kernel_rfl) rfl
  clear hf h
  go_enter Try.func41, Try.ntmps41
  go_wp2
  go_loopw [8] (fun i wr => ∃ k : Nat, k ≤ L.length ∧ i = .int .i64 k ∧ (∀ t, t < k → p (pAt L t) = false) ∧ Below w.heap.size w wr) (fun i _ => L.length - (intOf i).toNat)
  case atStart => exact ⟨0, Nat.zero_le _, rfl, fun t h => by omega, Below.refl _ _⟩
  case round =>
    obtain ⟨k, hk, rfl, hall, hb⟩ := hrel
    have Hall := Lib.hid hall
    clear hall
    by_cases hlt : k < L.length
    · obtain ⟨b, off, rfl, f0, f1⟩ := H.out.cells hb k hlt
      rw [← pAt_get hlt] at f0 f1
      have hc := HF.out wr (pAt L k) hb
      have Hx : Hid (p (pAt L k) = false → ∀ t, t < k + 1 → p (pAt L t) = false) := Lib.hid fun h t ht => by
        by_cases e : t = k
        · rw [e]; exact h
        · exact Hall.out t (by omega)
      cases hp : p (pAt L k) with
      | true =>
        rw [hp] at hc
        have Hp := Lib.hid hp
        have Hc := Lib.hid hc
        clear hp hc
        generalize hy : pAt L k = y at f0 f1 Hc
        have Hy := Lib.hid hy
        clear hy
        go_wp2_with fail; (with_reducible refine (Hc.out).mono ?_); rintro e w2 ⟨rfl, hb2⟩
        go_wp2
        go_ret
        exact ⟨.inl ⟨k, rfl, hlt, Hall.out, Hp.out⟩, bnext hb hb2⟩
      | false =>
        rw [hp] at hc
        have Hx2 := Lib.hid (Hx.out hp)
        have Hc := Lib.hid hc
        clear hp hc Hx
        generalize hy : pAt L k = y at f0 f1 Hc
        have Hy := Lib.hid hy
        clear hy
        go_wp2_with fail; (with_reducible refine (Hc.out).mono ?_); rintro e w2 ⟨rfl, hb2⟩
        go_wp2
        go_roundw
        case rel => exact ⟨k + 1, by omega, by go_num, Hx2.out, bnext hb hb2⟩
        case measure => simp [intOf]; omega
    · obtain rfl : k = L.length := by omega
      go_wp2
      go_ret
      exact ⟨.inr ⟨rfl, Hall.out⟩, hb⟩
end
end Go.Proofs.Ytebnllpcagkkbaa
