/- The contract of (*block.Block).Find. -/
import Derived.Test.YtebnllpcagkkbaaBfnd
namespace Go.Proofs.Ytebnllpcagkkbaa
open Go.RowKit
set_option linter.unusedVariables false
set_option linter.unusedSimpArgs false

theorem rises_lt {L : List PairD} (h : risesB L = true) : ∀ i j, i < j → j < L.length → ahead (pAt L i).key (pAt L j).key = true := by
  intro i j hij hj
  induction j with
  | zero => omega
  | succ j ih =>
    have h1 := (leB_no _ _).1 ((risesB_iff L).1 h (j + 1) (by omega) hj)
    rw [Nat.add_sub_cancel] at h1
    by_cases e : i = j
    · rw [e]; exact h1
    · exact ahead_trans (ih (by omega) (by omega)) h1
theorem pAt_drop (L : List PairD) (m t : Nat) : pAt (L.drop m) t = pAt L (m + t) := by
  unfold pAt; simp [List.getD]
theorem PRs.drop {w : World} {b off m : Nat} {L : List PairD} (h : PRs w (some ⟨b, off, none⟩) L) (hm : m < L.length) : PRs w (some ⟨b, off + m * 2, none⟩) (L.drop m) := by
  refine ⟨fun _ => ⟨b, off + m * 2, rfl, fun i hi => ?_⟩, fun x hx => h.2 x (List.mem_of_mem_drop hx)⟩
  obtain ⟨b', off', he, hc⟩ := h.1 (by omega)
  cases he
  rw [List.length_drop] at hi
  obtain ⟨h0, h1⟩ := hc (m + i) (by omega)
  rw [List.getElem_drop]
  rw [show off + m * 2 + i * 2 = off + (m + i) * 2 by omega]
  exact ⟨h0, h1⟩

section
variable {w : World} {x : Nat} {a : Option Addr} {c : Nat} {L : List PairD} {ev : Nat}
set_option maxRecDepth 100000 in
set_option maxHeartbeats 8000000 in
theorem bfind_any (hb : BK w x a c L ev) (hv1 : 1 ≤ ev) (hv2 : ev ≤ 64) (hl : L.length ≤ 100000) (hcc : L.length ≤ c) (hcm : c ≤ maxLen) (hri : risesB L = true) (key : ByteArray) :
    Calls Try.prog 24 #[.pointer (some ⟨x, 0, none⟩), .string key] w fun e w' => ∃ j : Nat, e = .returned (.int .i64 j) ∧ FirstGe L key j ∧ Below w.heap.size w w' := by
  have HB := Lib.hid hb
  have HR := Lib.hid hri
  have hxw := blk_lt hb.1
  unfold maxLen at hcm
  have hR := cntM_div ev hv1 L.length
  have hRl := cntM_le ev L.length
  have HR1 := Lib.hid hR
  have Hrs : Hid (∀ W, Below w.heap.size w W → Calls Try.prog 23 #[.pointer (some ⟨x, 0, none⟩)] W fun e w' => e = .returned (.int .i64 (cntM ev L.length)) ∧ Below W.heap.size W w') := Lib.hid fun W hB => brestarts_any (hb.below hB) hv1 hv2 (by omega)
  clear hb hri hR
  go_enter Try.func24, Try.ntmps24
  go_upto_region 1 with (fail)
  refine gen_wp (fun w' => FBx w' w.heap.size (w.heap.size + 1) x key ∧ Below w.heap.size w w') ?_ ?_
  · refine ⟨⟨?_, ?_⟩, ?_⟩
    · go_simp
    · go_simp
    · (repeat first | exact Below.refl _ _ | refine Below.drew ?_ | refine Below.alloc ?_ (by simp <;> omega) _ | refine Below.setCell ?_ (by simp <;> omega) _)
  rintro w1 ⟨hf1, hb1⟩
  generalize w.heap.size + 1 = q3 at *
  have Hfx : Hid (∀ W, Below w1.heap.size w1 W → FBx W w.heap.size q3 x key) := Lib.hid fun W hB => hf1.below hB
  have Hb1 := Lib.hid hb1
  have HBK : Hid (∀ W, Below w1.heap.size w1 W → BK W x a c L ev) := Lib.hid fun W hB => (HB.out.below hb1).below hB
  have hmul : ∀ i, i < cntM ev L.length → i * ev < L.length := fun i hi => by
    rw [HR1.out] at hi
    have := (Nat.le_div_iff_mul_le (show 0 < ev by omega)).1 (show i + 1 ≤ _ from hi)
    rw [Nat.add_mul] at this
    omega
  have Hmul := Lib.hid hmul
  have Hsr : Hid (∀ W, Below w1.heap.size w1 W → Calls Try.prog 38 #[.int .i64 (cntM ev L.length), .func (.func 39) #[] #[.pointer (some ⟨w.heap.size, 0, none⟩), .pointer (some ⟨q3, 0, none⟩)]] W fun e w' => ∃ j : Nat, e = .returned (.int .i64 j) ∧ j ≤ cntM ev L.length ∧ (0 < j → ahead key (pAt L ((j - 1) * ev)).key = false) ∧ Below W.heap.size W w') := Lib.hid fun W hB =>
    search_any (cntM ev L.length) _ (fun i => ahead key (pAt L (i * ev)).key) (by omega) W fun W2 i hi hB2 => find1_any (HBK.out _ (bnext hB hB2)) (Hfx.out _ (bnext hB hB2)) hl hv2 i (hmul i hi)
  have Hix : Hid (∀ W (a' : Option Addr) (c' : Nat) (L' : List PairD), Below w1.heap.size w1 W → PRs W a' L' → L'.length ≤ 100000 → Calls Try.prog 41 #[.slice a' L'.length c', .func (.func 42) #[] #[.pointer (some ⟨q3, 0, none⟩)]] W fun e w' => ((∃ j : Nat, e = .returned (.int .i64 j) ∧ j < L'.length ∧ (∀ t, t < j → (!ahead (pAt L' t).key key) = false) ∧ (!ahead (pAt L' j).key key) = true) ∨ (e = .returned (.int .i64 (-1)) ∧ ∀ t, t < L'.length → (!ahead (pAt L' t).key key) = false)) ∧ Below W.heap.size W w') := Lib.hid fun W a' c' L' hB hp hl' =>
    indexf_any hp (by unfold maxLen; omega) _ (fun y => !ahead y.key key) fun W2 y hB2 => find2_any (Hfx.out _ (bnext hB hB2)).2 y
  obtain ⟨e2, e3⟩ := hf1
  have s2 := cell_next e2
  have s3 := cell_next e3
  clear e3 hmul
  go_wp2_with fail; (with_reducible refine (Hrs.out _ hb1).mono ?_); rintro e w2 ⟨rfl, hb2⟩
  go_wp2_with fail; (with_reducible refine (Hsr.out _ hb2).mono ?_); rintro e w3 ⟨j, rfl, hj1, hj2, hb3⟩
  have B3 := bnext hb2 hb3
  have Hj2 := Lib.hid hj2
  clear e2 hb2 hb3 hj2 Hrs Hsr
  have e2 := s2 _ B3
  have hbk3 := HBK.out _ B3
  obtain ⟨k0, k1, _⟩ := cell_two hbk3.1
  have HP3 := Lib.hid hbk3.2
  clear hbk3
  obtain ⟨m, hm⟩ : ∃ m, (j - 1) * ev = m := ⟨_, rfl⟩
  have hml : m < L.length ∨ (L.length = 0 ∧ m = 0 ∧ j = 0) := by
    rcases Nat.eq_zero_or_pos j with h0 | h0
    · subst h0
      have : m = 0 := by rw [← hm]; simp
      rcases Nat.eq_zero_or_pos L.length with h1 | h1
      · exact .inr ⟨h1, this, rfl⟩
      · exact .inl (by omega)
    · exact .inl (by rw [← hm]; exact Hmul.out (j - 1) (by omega))
  have Hlow : Hid (∀ t, t < m → ahead (pAt L t).key key = true) := Lib.hid fun t ht => by
    have hj0 : 0 < j := by
      rcases Nat.eq_zero_or_pos j with h0 | h0
      · subst h0; rw [Nat.zero_sub, Nat.zero_mul] at hm; omega
      · exact h0
    have h1 := Hj2.out hj0
    rw [hm] at h1
    have h2 := rises_lt HR.out t m ht (by omega)
    rcases ahead_tri (pAt L m).key key with h3 | h3 | h3
    · exact ahead_trans h2 h3
    · rw [h3] at h2; exact h2
    · rw [h1] at h3; cases h3
  have Hm := Lib.hid hm
  clear hm
  go_upto_region 2 with (fail)
  go_cut [6] from 12 to 19 (fun t wx => t = .int .i64 m ∧ w3 = wx)
  case first =>
    cases j with
    | zero =>
      obtain rfl : m = 0 := by have := Hm.out; simp at this; exact this.symm
      go_wp2
      go_meet
      exact ⟨by rw [show max (-1 : Int) 0 = 0 by decide, Int.zero_mul, show wrap64 0 = 0 by first | (unfold wrap64; omega) | (unfold wrap64; simp) | simp [wrap64]]; rfl, rfl⟩
    | succ k =>
      have hmI : (k : Int) * (ev : Int) = (m : Int) := by rw [← Hm.out, Nat.add_sub_cancel]; exact (Int.natCast_mul k ev).symm
      have hk0 : (0 : Int) ≤ (k : Int) := by omega
      have hk1 : ¬ ((k : Int) < 0) := by omega
      go_wp2
      go_meet
      exact ⟨rfl, rfl⟩
  case rest =>
    obtain ⟨rfl, rfl⟩ := hcut
    have HTot : Hid (w3.cell? ⟨w.heap.size, 0, none⟩ = some (.pointer (some ⟨x, 0, none⟩))) := Lib.hid e2
    rcases hml with hml | ⟨hl0, rfl, rfl⟩
    · obtain ⟨b, off, rfl, _⟩ := HP3.out.1 (by omega)
      have hld : (L.drop m).length = L.length - m := List.length_drop
      have hix := Hix.out w3 (some ⟨b, off + m * 2, none⟩) (c - m) (L.drop m) B3 (HP3.out.drop hml) (by omega)
      rw [hld] at hix
      have Hix2 := Lib.hid hix
      have hmI : (m : Int) ≤ (L.length : Int) := by omega
      have hmI0 : (0 : Int) ≤ (m : Int) := by omega
      have hmI1 : (L.length : Int) ≤ (c : Int) := by omega
      have hmI2 : (m : Int) ≤ (c : Int) := by omega
      have hmc : ¬ (m = c) := by omega
      have hmc2 : ¬ (c = m) := by omega
      clear hix hld
      go_wp2_with fail; (with_reducible refine (Hix2.out).mono ?_); rintro e w4 ⟨hor, hb4⟩
      have B4 := bnext B3 hb4
      have e4 := s2 _ B4
      have hbk4 := HBK.out _ B4
      obtain ⟨g0, g1, _⟩ := cell_two hbk4.1
      clear hbk4 e2 k0 k1
      rcases hor with ⟨t, rfl, ht1, ht2, ht3⟩ | ⟨rfl, ht⟩
      · have Ht2 := Lib.hid ht2
        have Ht3 := Lib.hid ht3
        clear ht2 ht3
        go_wp2
        go_ret
        refine ⟨m + t, by go_num, ⟨by omega, fun u hu => ?_, fun _ => ?_⟩, bnext Hb1.out B4⟩
        · by_cases hum : u < m
          · exact Hlow.out u hum
          · have := Ht2.out (u - m) (by omega)
            rw [pAt_drop, show m + (u - m) = u by omega] at this
            simpa using this
        · have := Ht3.out
          rw [pAt_drop] at this
          simpa using this
      · have Ht := Lib.hid ht
        clear ht
        go_wp2
        go_ret
        refine ⟨L.length, rfl, ⟨Nat.le_refl _, fun u hu => ?_, fun h => absurd h (Nat.lt_irrefl _)⟩, bnext Hb1.out B4⟩
        by_cases hum : u < m
        · exact Hlow.out u hum
        · have := Ht.out (u - m) (by omega)
          rw [pAt_drop, show m + (u - m) = u by omega] at this
          simpa using this
    · obtain rfl : L = [] := List.eq_nil_of_length_eq_zero hl0
      have Hix0 : Hid (∀ (a' : Option Addr) (c' : Nat), Calls Try.prog 41 #[.slice a' 0 c', .func (.func 42) #[] #[.pointer (some ⟨q3, 0, none⟩)]] w3 fun e w' => e = .returned (.int .i64 (-1)) ∧ Below w3.heap.size w3 w') := Lib.hid fun a' c' =>
        (Hix.out w3 a' c' [] B3 ⟨fun h => absurd h (by simp), fun x hx => by cases hx⟩ (by simp)).mono fun e w' h => by
          rcases h with ⟨⟨j, _, h2, _⟩ | ⟨h1, _⟩, h3⟩
          · exact absurd h2 (by simp)
          · exact ⟨h1, h3⟩
      have hF0 : FirstGe [] key 0 := ⟨Nat.le_refl _, fun t h => by omega, fun h => absurd h (by simp)⟩
      have HF0 := Lib.hid hF0
      clear hF0 Hlow Hm Hj2
      have k0 : w3.cell? ⟨x, 0, none⟩ = some (.slice a 0 c) := k0
      have hcz : c = 0 ∨ 0 < c := Nat.eq_zero_or_pos c
      have hfin : ∀ W, Below w3.heap.size w3 W → W.cell? ⟨w.heap.size, 0, none⟩ = some (.pointer (some ⟨x, 0, none⟩)) ∧ W.cell? ⟨x, 0, none⟩ = some (.slice a 0 c) := fun W hB => ⟨cell_next e2 _ hB, cell_next k0 _ hB⟩
      have Hfin := Lib.hid hfin
      clear hfin
      rcases hcz with rfl | hcz
      · cases a with
        | none =>
          go_wp2_with fail; (with_reducible refine (Hix0.out _ _).mono ?_); rintro e w4 ⟨rfl, hb4⟩
          obtain ⟨e4, k4⟩ := Hfin.out _ hb4
          go_wp2
          go_ret
          exact ⟨0, rfl, HF0.out, bnext Hb1.out (bnext B3 hb4)⟩
        | some ad =>
          go_wp2_with fail; (with_reducible refine (Hix0.out _ _).mono ?_); rintro e w4 ⟨rfl, hb4⟩
          obtain ⟨e4, k4⟩ := Hfin.out _ hb4
          go_wp2
          go_ret
          exact ⟨0, rfl, HF0.out, bnext Hb1.out (bnext B3 hb4)⟩
      · have hcI : (0 : Int) < (c : Int) := by omega
        have hcn : ¬ (c = 0) := by omega
        have hcn2 : ¬ (0 = c) := by omega
        cases a with
        | none =>
          go_wp2_with fail; (with_reducible refine (Hix0.out _ _).mono ?_); rintro e w4 ⟨rfl, hb4⟩
          obtain ⟨e4, k4⟩ := Hfin.out _ hb4
          go_wp2
          go_ret
          exact ⟨0, rfl, HF0.out, bnext Hb1.out (bnext B3 hb4)⟩
        | some ad =>
          go_wp2_with fail; (with_reducible refine (Hix0.out _ _).mono ?_); rintro e w4 ⟨rfl, hb4⟩
          obtain ⟨e4, k4⟩ := Hfin.out _ hb4
          go_wp2
          go_ret
          exact ⟨0, rfl, HF0.out, bnext Hb1.out (bnext B3 hb4)⟩
end
end Go.Proofs.Ytebnllpcagkkbaa
