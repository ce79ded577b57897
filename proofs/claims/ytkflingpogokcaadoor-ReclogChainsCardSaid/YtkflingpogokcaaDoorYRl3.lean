/- Chapter 09: same, small. -/
import Derived.Test.YtkflingpogokcaaDoorYRl2
import Derived.Test.YtkflingpogokcaaDoorYInts
namespace Go.Proofs.YtkflingpogokcaaDoor
open Go.RowKit Go.Shelf
set_option linter.unusedVariables false
set_option linter.unusedSimpArgs false

theorem RowR.bss {W : World} {B : Nat} {u : Value} {xs : List RX} (h : RowR W B u xs) : ∃ ao c, u = .slice ao xs.length c ∧ c ≤ maxLen ∧ BSs W ao (xs.map fun x => (x.v, x.l)) := by
  obtain ⟨h1, h2⟩ := h
  obtain ⟨ao, c, rfl, h3, hm, hg⟩ := row_shape h1
  refine ⟨ao, c, rfl, hm, fun hl => ?_, fun x hx => ?_⟩
  · obtain ⟨g, rfl, _⟩ := hg (by simpa using hl)
    refine ⟨g, 0, rfl, fun i hi => ?_⟩
    rw [List.length_map] at hi
    have := World.ownsRow.cells h1 (g := g) rfl i (xs[i]).v (by simp [rxs, hi])
    rw [add_none] at this
    simpa using this
  · obtain ⟨y, hy, rfl⟩ := List.mem_map.1 hx
    obtain ⟨h4, h5⟩ := h2 y hy
    have h6 := h4.reads
    have := h6.capl
    exact ⟨h6, by show y.l.length ≤ maxLen; omega⟩
set_option maxHeartbeats 2000000 in
theorem small9 {w : World} {ao : Option Addr} {c : Nat} {L : List (Value × List UInt8)} (h : BSs w ao L) (hl : L.length ≤ maxLen) (most : Nat) (hmo : most ≤ 100) :
    Calls Tryd.prog 17 #[.slice ao L.length c, .int .i64 most] w fun e w' => ∃ z, e = .returned (.bool z) ∧ (z = true ↔ (∀ x ∈ L, x.2.length ≤ 300) ∧ L.length ≤ most) ∧ Below w.heap.size w w' := by
  have H := Lib.hid h
  unfold maxLen at hl
  clear h
  go_enter Tryd.func17, Tryd.ntmps17
  go_wp2
  go_loopw [9] (fun i wr => ∃ k : Nat, k ≤ L.length ∧ i = .int .i64 k ∧ (∀ (j : Nat) (hj : j < L.length), j < k → (L[j]).2.length ≤ 300) ∧ Below w.heap.size w wr) (fun i _ => L.length - (intOf i).toNat)
  case atStart => exact ⟨0, Nat.zero_le _, rfl, fun j hj hk => by omega, Below.refl _ _⟩
  case round =>
    obtain ⟨k, hk, rfl, hall, hbr⟩ := hrel
    have Hall := Lib.hid hall
    have HB := Lib.hid hbr
    clear hall
    by_cases hlt : k < L.length
    · obtain ⟨b, off, xo, cc, rfl, hv, d0, hrb, hm⟩ := H.out.cell hbr k hlt
      unfold maxLen at hm
      clear hv hrb hbr
      have Hlt := Lib.hid hlt
      by_cases h3 : (L[k]).2.length ≤ 300
      · have Hall2 : Hid (∀ (j : Nat) (hj : j < L.length), j < k + 1 → (L[j]).2.length ≤ 300) := Lib.hid fun j hj hjk => by
          by_cases e : j = k
          · subst e; exact h3
          · exact Hall.out j hj (by omega)
        generalize L[k] = x at *
        go_wp2
        go_roundw
        case rel => exact ⟨k + 1, by omega, by go_num, Hall2.out, HB.out⟩
        case measure => simp [intOf]; omega
      · have Hno : Hid (¬ ∀ x ∈ L, x.2.length ≤ 300) := Lib.hid fun hx => h3 (hx _ (List.getElem_mem hlt))
        generalize L[k] = x at *
        go_wp2
        go_ret
        exact ⟨false, rfl, ⟨fun h => (by cases h), fun h => absurd h.1 Hno.out⟩, HB.out⟩
    · obtain rfl : k = L.length := by omega
      have Hyes : Hid (∀ x ∈ L, x.2.length ≤ 300) := Lib.hid fun x hx => by
        obtain ⟨j, hj, rfl⟩ := List.mem_iff_getElem.1 hx
        exact Hall.out j hj hj
      clear hlt hk hbr
      by_cases hmm : L.length ≤ most
      · have hd : decide ((L.length : Int) ≤ (most : Int)) = true := decide_eq_true (by omega)
        go_wp2
        go_ret
        exact ⟨true, by first | rfl | simp [hmm], ⟨fun _ => ⟨Hyes.out, hmm⟩, fun _ => rfl⟩, HB.out⟩
      · have hd : decide ((L.length : Int) ≤ (most : Int)) = false := decide_eq_false (by omega)
        go_wp2
        go_ret
        exact ⟨false, by first | rfl | simp [hmm], ⟨fun h => (by cases h), fun h => absurd h.2 hmm⟩, HB.out⟩
set_option maxRecDepth 100000 in
set_option maxHeartbeats 2000000 in
theorem same9 {w : World} {ao bo : Option Addr} {c d : Nat} {L M : List (Value × List UInt8)} (h : BSs w ao L) (hl : L.length ≤ maxLen) (k : BSs w bo M) (he : L.length = M.length) (hs : ∀ (j : Nat) (h1 : j < L.length) (h2 : j < M.length), (L[j]).2 = (M[j]).2) :
    Calls Tryd.prog 16 #[.slice ao L.length c, .slice bo L.length d] w fun e w' => e = .returned (.bool true) ∧ Below w.heap.size w w' := by
  have H := Lib.hid h
  have K := Lib.hid k
  have HE := Lib.hid he
  have HS := Lib.hid hs
  unfold maxLen at hl
  clear h k he hs
  go_enter Tryd.func16, Tryd.ntmps16
  go_wp2
  go_loopw [13] (fun i wr => ∃ k : Nat, k ≤ L.length ∧ i = .int .i64 k ∧ Below w.heap.size w wr) (fun i _ => L.length - (intOf i).toNat)
  case atStart => exact ⟨0, Nat.zero_le _, rfl, Below.refl _ _⟩
  case round =>
    obtain ⟨k, hk, rfl, hbr⟩ := hrel
    have HB := Lib.hid hbr
    by_cases hlt : k < L.length
    · have hlt2 : k < M.length := by have := HE.out; omega
      obtain ⟨b, off, xo, cc, rfl, hv, d0, hrb, hm⟩ := H.out.cell hbr k hlt
      obtain ⟨b2, off2, xo2, cc2, rfl, hv2, d2, hrb2, hm2⟩ := K.out.cell hbr k hlt2
      have hz := HS.out k hlt hlt2
      unfold maxLen at hm hm2
      have HR := Lib.hid hrb
      have HR2 := Lib.hid hrb2
      have HZ := Lib.hid hz
      clear hv hrb hbr hv2 hrb2 hz
      generalize L[k] = x at *
      generalize M[k] = y at *
      clear hlt2
      go_upto_region 6 with (fail)
      have Bq := bnext_grow (Below.refl wr.heap.size wr)
      have hsm : Hid (∀ W, Below wr.heap.size wr W → Calls Tryd.prog 12 #[.slice xo x.2.length cc, .slice xo2 y.2.length cc2] W fun e w' => e = .returned (.bool true) ∧ Below W.heap.size W w') := Lib.hid fun W hW => same_b (HR.out.below hW) (HR2.out.below hW) true (by rw [beq_iff_eq]; exact HZ.out)
      have s0 := cell_next d0
      have s2 := cell_next d2
      refine wp_region_quiet_below (by kernel_rfl) (by kernel_rfl) ?_; (repeat (go_big_quiet_step ((go_at_call 12; (with_reducible refine Calls.regrown_of (hsm.out _ (Bq _ _))))))); refine wpQuiet_nil ?_; rintro _ ⟨pq, rfl⟩
      have HB4 := Lib.hid (HB.out.trans ((Bq pq.d pq.os).mono HB.out.size))
      go_wp2
      go_roundw
      case rel => exact ⟨k + 1, by omega, by go_num, HB4.out⟩
      case measure => simp [intOf]; omega
    · obtain rfl : k = L.length := by omega
      go_wp2
      go_ret
      exact ⟨rfl, HB.out⟩
end Go.Proofs.YtkflingpogokcaaDoor
