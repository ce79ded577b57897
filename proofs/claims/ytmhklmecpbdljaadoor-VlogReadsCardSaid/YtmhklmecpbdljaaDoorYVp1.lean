/- Chapter 14: a pointer's text. -/
import Derived.Test.YtmhklmecpbdljaaDoorYJi
namespace Go.Proofs.YtmhklmecpbdljaaDoor
open Go.RowKit
set_option linter.unusedVariables false
set_option linter.unusedSimpArgs false

/-- the bytes of a pointer -/
def ptrB (z a n : Nat) : List UInt8 := num z ++ num a ++ num n
theorem ptrB_len {z a n : Nat} (hz : z ≤ 65536) (ha : a ≤ 65536) (hn : n ≤ 65536) : (ptrB z a n).length ≤ 27 := by
  have h1 := num_len9 (n := z) (by omega)
  have h2 := num_len9 (n := a) (by omega)
  have h3 := num_len9 (n := n) (by omega)
  unfold ptrB; simp only [List.length_append]; omega
theorem pchk_nat {z a n : Int} (h : pchk z a n = true) : ∃ z' a' n' : Nat, z = z' ∧ a = a' ∧ n = n' ∧ z' ≤ 63 ∧ a' ≤ 65536 ∧ n' ≤ 65536 := by
  unfold pchk at h
  rw [decide_eq_true_eq] at h
  obtain ⟨h1, h2, h3, h4, h5, h6⟩ := h
  obtain ⟨z', rfl⟩ := Int.eq_ofNat_of_zero_le h1
  obtain ⟨a', rfl⟩ := Int.eq_ofNat_of_zero_le h3
  obtain ⟨n', rfl⟩ := Int.eq_ofNat_of_zero_le (show 0 ≤ n by omega)
  exact ⟨z', a', n', rfl, rfl, rfl, by omega, by omega, by omega⟩
set_option maxRecDepth 100000 in
set_option maxHeartbeats 4000000 in
theorem ptext_bad (z a n : Int) (w : World) (h : pchk z a n = false) : Calls Tryd.prog 27 #[.agg #[.int .i64 z, .int .i64 a, .int .i64 n]] w fun e w' => e = .returned (.tuple #[.string ⟨#[]⟩, .int .i64 140]) ∧ Below w.heap.size w w' := by
  obtain ⟨q0, q1, q2⟩ := cells3n (w := w) (a := .int .i64 z) (b := .int .i64 a) (c := .int .i64 n) (T := 25)
  have hp := pcheck z a n (w.alloc (.cells #[.int .i64 z, .int .i64 a, .int .i64 n] 25))
  rw [h] at hp
  have HP : Hid (Calls Tryd.prog 28 #[.agg #[.int .i64 z, .int .i64 a, .int .i64 n]] (w.alloc (.cells #[.int .i64 z, .int .i64 a, .int .i64 n] 25)) fun e w' => e = .returned (.int .i64 140) ∧ Below (w.alloc (.cells #[.int .i64 z, .int .i64 a, .int .i64 n] 25)).heap.size (w.alloc (.cells #[.int .i64 z, .int .i64 a, .int .i64 n] 25)) w') := Lib.hid hp
  clear hp h
  go_enter Tryd.func27, Tryd.ntmps27
  go_wp2_with fail; (with_reducible refine (HP.out).mono ?_); rintro e w1 ⟨rfl, hb1⟩
  go_wp2
  go_ret2
  exact ⟨rfl, ((Below.refl _ w).alloc (Nat.le_refl _) _).trans (hb1.mono (by simp))⟩
set_option maxRecDepth 100000 in
set_option maxHeartbeats 8000000 in
theorem ptext (z a n : Nat) (w : World) (h : pchk z a n = true) (hz : z ≤ 65536) (ha : a ≤ 65536) (hn : n ≤ 65536) : Calls Tryd.prog 27 #[.agg #[.int .i64 z, .int .i64 a, .int .i64 n]] w fun e w' => e = .returned (.tuple #[.string ⟨(ptrB z a n).toArray⟩, .int .i64 0]) ∧ Below w.heap.size w w' := by
  obtain ⟨q0, q1, q2⟩ := cells3n (w := w) (a := .int .i64 z) (b := .int .i64 a) (c := .int .i64 n) (T := 25)
  have hp := pcheck z a n (w.alloc (.cells #[.int .i64 z, .int .i64 a, .int .i64 n] 25))
  rw [h] at hp
  have HP : Hid (Calls Tryd.prog 28 #[.agg #[.int .i64 z, .int .i64 a, .int .i64 n]] (w.alloc (.cells #[.int .i64 z, .int .i64 a, .int .i64 n] 25)) fun e w' => e = .returned (.int .i64 0) ∧ Below (w.alloc (.cells #[.int .i64 z, .int .i64 a, .int .i64 n] 25)).heap.size (w.alloc (.cells #[.int .i64 z, .int .i64 a, .int .i64 n] 25)) w') := Lib.hid hp
  have hlen := ptrB_len hz ha hn
  have Q0 := cell_next q0
  have Q1 := cell_next q1
  have Q2 := cell_next q2
  have hz0 : w.heap.size ≤ (w.alloc (.cells #[.int .i64 z, .int .i64 a, .int .i64 n] 25)).heap.size := by simp
  have HB0 : Hid (Below w.heap.size w (w.alloc (.cells #[.int .i64 z, .int .i64 a, .int .i64 n] 25))) := Lib.hid ((Below.refl _ w).alloc (Nat.le_refl _) _)
  have hq := heap_alloc_new w (.cells #[.int .i64 z, .int .i64 a, .int .i64 n] 25)
  have hqz := blk_lt hq
  clear hp h hq
  go_enter Tryd.func27, Tryd.ntmps27
  go_wp2_with fail; (with_reducible refine (HP.out).mono ?_); rintro e w1 ⟨rfl, hb1⟩
  have hz1 := hb1.size
  have HB1 := Lib.hid (HB0.out.trans (hb1.mono hz0))
  have hw0 := WR.new9 w1
  have hb0 := wr_new9 w1
  have HB01 := Lib.hid (hb1.trans (hb0.mono hz1))
  have z0 : w1.heap.size ≤ (w1.alloc (.cells #[.slice none 0 0, .bool false] 101)).heap.size := hb0.size
  have HW0 := Lib.hid hw0
  have HBn := Lib.hid hb0
  have c0 := Q0 _ HB01.out
  have c1 := Q1 _ HB01.out
  have c2 := Q2 _ HB01.out
  go_upto_region 5 with (fail)
  clear hb1 hw0 hb0 q0 q1 q2 HP
  generalize hw2 : w1.alloc (.cells #[.slice none 0 0, .bool false] 101) = w2 at *
  clear hw2
  have hwz : w1.heap.size ≤ w2.heap.size := z0
  refine wp_region_held_drew (S := fun w' => w'.cell? ⟨w.heap.size, 0, none⟩ = some (.int .i64 z) ∧ w'.cell? ⟨w.heap.size, 1, none⟩ = some (.int .i64 a) ∧ w'.cell? ⟨w.heap.size, 2, none⟩ = some (.int .i64 n)) (by kernel_rfl) ⟨c0, c1, c2⟩ (fun hHeld => ?_)
  refine wpAnyH_take (i := 0) (oi := ⟨some 14, _, _, _, _, _⟩) (v := ?_) rfl (by kernel_rfl) (by kernel_rfl) (by kernel_rfl) (fun _ _ _ h => h) (Or.inl ⟨by rfl, ?_⟩) (by assumption) ?_
  rotate_left
  · intro w hSw
    (try dsimp only at hSw)
    go_simp
    (try with_reducible rfl)
  (try simp only [Act.put, List.setIfInBounds_toArray, List.set_cons_zero, List.set_cons_succ])
  refine wpAnyH_take (i := 1) (oi := ⟨some 15, _, _, _, _, _⟩) (v := ?_) rfl (by kernel_rfl) (by kernel_rfl) (by kernel_rfl) (fun _ _ _ h => h) (Or.inl ⟨by rfl, ?_⟩) (by assumption) ?_
  rotate_left
  · intro w hSw
    (try dsimp only at hSw)
    go_simp
    (try with_reducible rfl)
  (try simp only [Act.put, List.setIfInBounds_toArray, List.set_cons_zero, List.set_cons_succ])
  refine wpAnyH_take (i := 3) (oi := ⟨some 17, _, _, _, _, _⟩) (v := ?_) rfl (by kernel_rfl) (by kernel_rfl) (by kernel_rfl) (fun _ _ _ h => h) (Or.inl ⟨by rfl, ?_⟩) (by assumption) ?_
  rotate_left
  · intro w hSw
    (try dsimp only at hSw)
    go_simp
    (try with_reducible rfl)
  (try simp only [Act.put, List.setIfInBounds_toArray, List.set_cons_zero, List.set_cons_succ])
  refine wpAnyH_take (i := 4) (oi := ⟨some 18, _, _, _, _, _⟩) (v := ?_) rfl (by kernel_rfl) (by kernel_rfl) (by kernel_rfl) (fun _ _ _ h => h) (Or.inl ⟨by rfl, ?_⟩) (by assumption) ?_
  rotate_left
  · intro w hSw
    (try dsimp only at hSw)
    go_simp
    (try with_reducible rfl)
  (try simp only [Act.put, List.setIfInBounds_toArray, List.set_cons_zero, List.set_cons_succ])
  refine wpAnyH_take (i := 6) (oi := ⟨some 20, _, _, _, _, _⟩) (v := ?_) rfl (by kernel_rfl) (by kernel_rfl) (by kernel_rfl) (fun _ _ _ h => h) (Or.inl ⟨by rfl, ?_⟩) (by assumption) ?_
  rotate_left
  · intro w hSw
    (try dsimp only at hSw)
    go_simp
    (try with_reducible rfl)
  (try simp only [Act.put, List.setIfInBounds_toArray, List.set_cons_zero, List.set_cons_succ])
  refine wpAnyH_take (i := 7) (oi := ⟨some 21, _, _, _, _, _⟩) (v := ?_) rfl (by kernel_rfl) (by kernel_rfl) (by kernel_rfl) (fun _ _ _ h => h) (Or.inl ⟨by rfl, ?_⟩) (by assumption) ?_
  rotate_left
  · intro w hSw
    (try dsimp only at hSw)
    go_simp
    (try with_reducible rfl)
  (try simp only [Act.put, List.setIfInBounds_toArray, List.set_cons_zero, List.set_cons_succ])
  refine wpAnyH_ready (rs := [2]) (by kernel_rfl) (by simp) ?_
  refine AllReadyH.cons (o := ⟨some 16, _, _, _, _, _⟩) rfl (fun K hK => ?_) ?_
  · have hN1 := wnumber (HW0.out.below (Below.refl _ w2).drew) z (by omega) (by simp) hwz
    have HN1 := Lib.hid hN1
    clear hN1
    go_simp
    (with_reducible refine (HN1.out).mono ?_)
    rintro e w3 ⟨rfl, v3, hwr3, hc3, hl3⟩
    have hg0 := fun k hk => HW0.out.ge (Nat.le_refl _) k hk
    have hb3 : Below w1.heap.size w2 w3 := ((Below.refl w1.heap.size w2).drew).trans (hc3.below hg0 hwz)
    have hq3 : Below (w.alloc (.cells #[.int .i64 z, .int .i64 a, .int .i64 n] 25)).heap.size _ w3 := HB01.out.trans (hb3.mono hz1)
    have HW3 := Lib.hid hwr3
    have HB3 := Lib.hid hb3
    have hw13 : w1.heap.size ≤ w3.heap.size := Nat.le_trans hwz hb3.size
    have k0 := Q0 _ hq3
    have k1 := Q1 _ hq3
    have k2 := Q2 _ hq3
    clear hwr3 hc3 hl3 hq3 hb3 hg0
    go_wp2_with fail
    refine hK.out _ _ ?_ (fun hHeld => ?_)
    · exact ⟨k0, k1, k2⟩
    clear hK K
    (try simp only [Act.put, List.setIfInBounds_toArray, List.set_cons_zero, List.set_cons_succ])
    refine wpAnyH_ready (rs := [5]) (by kernel_rfl) (by simp) ?_
    refine AllReadyH.cons (o := ⟨some 19, _, _, _, _, _⟩) rfl (fun K hK => ?_) ?_
    · have hN2 := wnumber HW3.out a (by omega) (by have := num_len9 (n := z) (by omega); simp only [List.nil_append]; omega) hw13
      have HN2 := Lib.hid hN2
      clear hN2
      go_simp
      (with_reducible refine (HN2.out).mono ?_)
      rintro e w4 ⟨rfl, v4, hwr4, hc4, hl4⟩
      have hb4 := hc4.below (fun k hk => HW3.out.ge (Nat.le_refl _) k hk) hw13
      have hb24 := HB3.out.trans hb4
      have hq4 : Below (w.alloc (.cells #[.int .i64 z, .int .i64 a, .int .i64 n] 25)).heap.size _ w4 := HB01.out.trans (hb24.mono hz1)
      have HW4 := Lib.hid hwr4
      have HB4 := Lib.hid hb24
      have hw14 : w1.heap.size ≤ w4.heap.size := Nat.le_trans hw13 hb4.size
      have j0 := Q0 _ hq4
      have j1 := Q1 _ hq4
      have j2 := Q2 _ hq4
      clear hwr4 hc4 hl4 hq4 hb4 hb24
      go_wp2_with fail
      refine hK.out _ _ ?_ (fun hHeld => ?_)
      · exact ⟨j0, j1, j2⟩
      clear hK K
      (try simp only [Act.put, List.setIfInBounds_toArray, List.set_cons_zero, List.set_cons_succ])
      refine wpAnyH_ready (rs := [8]) (by kernel_rfl) (by simp) ?_
      refine AllReadyH.cons (o := ⟨some 22, _, _, _, _, _⟩) rfl (fun K hK => ?_) ?_
      · have hN3 := wnumber HW4.out n (by omega) (by have := num_len9 (n := z) (by omega); have := num_len9 (n := a) (by omega); simp only [List.nil_append, List.length_append]; omega) hw14
        have HN3 := Lib.hid hN3
        clear hN3
        go_simp
        (with_reducible refine (HN3.out).mono ?_)
        rintro e w5 ⟨rfl, v5, hwr5, hc5, hl5⟩
        have hb5 := hc5.below (fun k hk => HW4.out.ge (Nat.le_refl _) k hk) hw14
        have hb25 := HB4.out.trans hb5
        have hq5 : Below (w.alloc (.cells #[.int .i64 z, .int .i64 a, .int .i64 n] 25)).heap.size _ w5 := HB01.out.trans (hb25.mono hz1)
        rw [List.nil_append] at hwr5
        have hWB : Calls Tryd.prog 51 #[.pointer (some ⟨w1.heap.size, 0, none⟩)] w5 (BytesOut w5 (ptrB z a n)) := wbytes hwr5 (by have : (num z ++ num a ++ num n).length ≤ 27 := hlen; omega)
        have HWB := Lib.hid hWB
        have HB5 := Lib.hid hb25
        have i0 := Q0 _ hq5
        have i1 := Q1 _ hq5
        have i2 := Q2 _ hq5
        clear hwr5 hc5 hl5 hb5 hb25 hWB
        go_wp2_with fail
        refine hK.out _ _ ?_ (fun hHeld => ?_)
        · exact ⟨i0, i1, i2⟩
        clear hK K
        (try simp only [Act.put, List.setIfInBounds_toArray, List.set_cons_zero, List.set_cons_succ])
        refine wpAnyH_ready (rs := [9]) (by kernel_rfl) (by simp) ?_
        refine AllReadyH.cons (o := ⟨some 23, _, _, _, _, _⟩) rfl (fun K hK => ?_) ?_
        · go_simp
          (with_reducible refine (HWB.out).mono ?_)
          rintro e w6 ⟨v6, rfl, ho6, ⟨g6, rfl⟩, hb6⟩
          have hq6 := hq5.trans (hb6.mono hq5.size)
          have hb26 := HB5.out.trans (hb6.mono (Nat.le_trans hwz HB5.out.size))
          have HB6 := Lib.hid (HB1.out.trans ((HBn.out.trans hb26).mono HB1.out.size))
          have hstr := ho6.reads.string
          have l0 := Q0 _ hq6
          have l1 := Q1 _ hq6
          have l2 := Q2 _ hq6
          clear ho6 hb6 hb26 hq5
          go_wp2_with fail
          refine hK.out _ _ ?_ (fun hHeld => ?_)
          · exact ⟨l0, l1, l2⟩
          clear hK K
          (try simp only [Act.put, List.setIfInBounds_toArray, List.set_cons_zero, List.set_cons_succ])
          refine wpAnyH_take (i := 10) (oi := ⟨some 13, _, _, _, _, _⟩) (v := ?_) rfl (by kernel_rfl) (by kernel_rfl) (by kernel_rfl) (fun _ _ _ h => h) (Or.inl ⟨by rfl, ?_⟩) (by assumption) ?_
          rotate_left
          · intro w hSw
            (try dsimp only at hSw)
            go_simp
            (try with_reducible rfl)
          (try simp only [Act.put, List.setIfInBounds_toArray, List.set_cons_zero, List.set_cons_succ])
          refine wpAnyH_take (i := 11) (oi := ⟨some 24, _, _, _, _, _⟩) (v := ?_) rfl (by kernel_rfl) (by kernel_rfl) (by kernel_rfl) (fun _ _ _ h => h) (Or.inl ⟨by rfl, ?_⟩) (by assumption) ?_
          rotate_left
          · intro w hSw
            (try dsimp only at hSw)
            go_simp
            (try with_reducible rfl)
          (try simp only [Act.put, List.setIfInBounds_toArray, List.set_cons_zero, List.set_cons_succ])
          refine wpAnyH_take (i := 12) (oi := ⟨some 25, _, _, _, _, _⟩) (v := ?_) rfl (by kernel_rfl) (by kernel_rfl) (by kernel_rfl) (fun _ _ _ h => h) (Or.inl ⟨by rfl, ?_⟩) (by assumption) ?_
          rotate_left
          · intro w hSw
            (try dsimp only at hSw)
            go_simp
            (try with_reducible rfl)
          (try simp only [Act.put, List.setIfInBounds_toArray, List.set_cons_zero, List.set_cons_succ])
          refine wpAnyH_take (i := 13) (oi := ⟨some 6, _, _, _, _, _⟩) (v := ?_) rfl (by kernel_rfl) (by kernel_rfl) (by kernel_rfl) (fun _ _ _ h => h) (Or.inl ⟨by rfl, ?_⟩) (by assumption) ?_
          rotate_left
          · intro w hSw
            (try dsimp only at hSw)
            go_simp
            (try with_reducible rfl)
          (try simp only [Act.put, List.setIfInBounds_toArray, List.set_cons_zero, List.set_cons_succ])
          refine wpAnyH_take (i := 14) (oi := ⟨some 7, _, _, _, _, _⟩) (v := ?_) rfl (by kernel_rfl) (by kernel_rfl) (by kernel_rfl) (fun _ _ _ h => h) (Or.inl ⟨by rfl, ?_⟩) (by assumption) ?_
          rotate_left
          · intro w hSw
            (try dsimp only at hSw)
            go_simp
            (try with_reducible rfl)
          (try simp only [Act.put, List.setIfInBounds_toArray, List.set_cons_zero, List.set_cons_succ])
          refine wpAnyH_done (by kernel_rfl) ?_ _
          go_wp2
          go_ret2
          exact ⟨rfl, HB6.out⟩
        exact AllReadyH.nil
      exact AllReadyH.nil
    exact AllReadyH.nil
  exact AllReadyH.nil
set_option maxRecDepth 100000 in
set_option maxHeartbeats 2000000 in
theorem prefright (z a n : Int) (w : World) : Calls Tryd.prog 17 #[.int .i64 z, .int .i64 a, .int .i64 n] w fun e w' => e = .returned (.bool (pchk z a n)) ∧ w = w' := by
  have h7 : z < 0 ∨ (0 ≤ z ∧ 63 < z) ∨ (0 ≤ z ∧ z ≤ 63 ∧ a < 0) ∨ (0 ≤ z ∧ z ≤ 63 ∧ 0 ≤ a ∧ 65536 < a) ∨ (0 ≤ z ∧ z ≤ 63 ∧ 0 ≤ a ∧ a ≤ 65536 ∧ n < 1) ∨ (0 ≤ z ∧ z ≤ 63 ∧ 0 ≤ a ∧ a ≤ 65536 ∧ 1 ≤ n ∧ 65536 < n) ∨ (0 ≤ z ∧ z ≤ 63 ∧ 0 ≤ a ∧ a ≤ 65536 ∧ 1 ≤ n ∧ n ≤ 65536) := by omega
  unfold pchk
  rcases h7 with h1 | ⟨h1, h2⟩ | ⟨h1, h2, h3⟩ | ⟨h1, h2, h3, h4⟩ | ⟨h1, h2, h3, h4, h5⟩ | ⟨h1, h2, h3, h4, h5, h6⟩ | ⟨h1, h2, h3, h4, h5, h6⟩
  · have hd : decide (0 ≤ z ∧ z ≤ 63 ∧ 0 ≤ a ∧ a ≤ 65536 ∧ 1 ≤ n ∧ n ≤ 65536) = false := by rw [decide_eq_false_iff_not]; omega
    rw [hd]
    clear hd
    go_enter Tryd.func17, Tryd.ntmps17
    go_wp2
    go_ret
    exact ⟨by first | rfl | (simp; done) | (simp; omega), rfl⟩
  · have hd : decide (0 ≤ z ∧ z ≤ 63 ∧ 0 ≤ a ∧ a ≤ 65536 ∧ 1 ≤ n ∧ n ≤ 65536) = false := by rw [decide_eq_false_iff_not]; omega
    rw [hd]
    clear hd
    go_enter Tryd.func17, Tryd.ntmps17
    go_wp2
    go_ret
    exact ⟨by first | rfl | (simp; done) | (simp; omega), rfl⟩
  · have hd : decide (0 ≤ z ∧ z ≤ 63 ∧ 0 ≤ a ∧ a ≤ 65536 ∧ 1 ≤ n ∧ n ≤ 65536) = false := by rw [decide_eq_false_iff_not]; omega
    rw [hd]
    clear hd
    go_enter Tryd.func17, Tryd.ntmps17
    go_wp2
    go_ret
    exact ⟨by first | rfl | (simp; done) | (simp; omega), rfl⟩
  · have hd : decide (0 ≤ z ∧ z ≤ 63 ∧ 0 ≤ a ∧ a ≤ 65536 ∧ 1 ≤ n ∧ n ≤ 65536) = false := by rw [decide_eq_false_iff_not]; omega
    rw [hd]
    clear hd
    go_enter Tryd.func17, Tryd.ntmps17
    go_wp2
    go_ret
    exact ⟨by first | rfl | (simp; done) | (simp; omega), rfl⟩
  · have hd : decide (0 ≤ z ∧ z ≤ 63 ∧ 0 ≤ a ∧ a ≤ 65536 ∧ 1 ≤ n ∧ n ≤ 65536) = false := by rw [decide_eq_false_iff_not]; omega
    rw [hd]
    clear hd
    go_enter Tryd.func17, Tryd.ntmps17
    go_wp2
    go_ret
    exact ⟨by first | rfl | (simp; done) | (simp; omega), rfl⟩
  · have hd : decide (0 ≤ z ∧ z ≤ 63 ∧ 0 ≤ a ∧ a ≤ 65536 ∧ 1 ≤ n ∧ n ≤ 65536) = false := by rw [decide_eq_false_iff_not]; omega
    rw [hd]
    clear hd
    go_enter Tryd.func17, Tryd.ntmps17
    go_wp2
    go_ret
    exact ⟨by first | rfl | (simp; done) | (simp; omega), rfl⟩
  · have hd : decide (0 ≤ z ∧ z ≤ 63 ∧ 0 ≤ a ∧ a ≤ 65536 ∧ 1 ≤ n ∧ n ≤ 65536) = true := by rw [decide_eq_true_eq]; omega
    rw [hd]
    clear hd
    go_enter Tryd.func17, Tryd.ntmps17
    go_wp2
    go_ret
    exact ⟨by first | rfl | (simp; done) | (simp; omega), rfl⟩
set_option maxRecDepth 100000 in
set_option maxHeartbeats 4000000 in
theorem preftext (z a n : Nat) (w : World) (hz : z ≤ 65536) (ha : a ≤ 65536) (hn : n ≤ 65536) : Calls Tryd.prog 26 #[.int .i64 z, .int .i64 a, .int .i64 n] w fun e w' => e = .returned (.string ⟨(ptrB z a n).toArray⟩) ∧ Below w.heap.size w w' := by
  have HA : Hid (∀ (m : Nat) (W : World), m ≤ 65536 → Calls Tryd.prog 49 #[.int .i64 m] W (NewB W (num m))) := Lib.hid fun m W hm => refnumber m W (by omega)
  have h1 := num_len9 (n := z) (by omega)
  have h2 := num_len9 (n := a) (by omega)
  have h3 := num_len9 (n := n) (by omega)
  have he : ptrB z a n = num z ++ num a ++ num n := rfl
  have HE := Lib.hid he
  have H1 := Lib.hid (HA.out z w hz)
  have H2 := Lib.hid (fun W => HA.out a W ha)
  have H3 : Hid (∀ W, Calls Tryd.prog 49 #[.int .i64 n] W fun e w' => ∃ v, e = .returned v ∧ OB w' W.heap.size v (num n) ∧ Below W.heap.size W w') := Lib.hid (fun W => HA.out n W hn)
  clear he HA
  generalize ptrB z a n = P at *
  generalize num z = A at *
  generalize num a = B at *
  generalize num n = C at *
  go_enter Tryd.func26, Tryd.ntmps26
  go_wp2_with fail; (with_reducible refine (H1.out).mono ?_); rintro e w1 ⟨v1, rfl, ho1, hb1⟩
  obtain ⟨a1, n1, c1, rfl, hm1⟩ := ho1.shape
  obtain rfl := ho1.len
  go_wp2_with fail; (with_reducible refine (H2.out _).mono ?_); rintro e w2 ⟨v2, rfl, ho2, hb2⟩
  obtain ⟨a2, n2, c2, rfl, hm2⟩ := ho2.shape
  obtain rfl := ho2.len
  have HO1 := Lib.hid (ho1.past hb2 (Nat.le_refl _))
  have HR2 := Lib.hid ho2.reads
  have HB2 := Lib.hid (hb1.trans (hb2.mono hb1.size))
  have hz2 := HB2.out.size
  clear ho1 ho2 hb1 hb2
  go_wp2_with (first
    | (at_builtin; (refine wpList_appr rfl (.tmp 9) (.tmp 11) rfl w.heap.size _ A rfl HO1.out _ B rfl HR2.out ?_ hz2 ?_); (omega); intro v3 w3 ho3 hold ha3; have HB3 := Lib.hid (HB2.out.trans (HO1.out.below ha3 hz2)); have HO3 := Lib.hid ho3; obtain ⟨a3, n3, c3, rfl, hm3⟩ := ho3.shape; clear ho3 hold ha3)
    | (go_at_call 49; go_loud (with_reducible refine (H3.out _).mono ?_; rintro e w4 ⟨v4, rfl, ho4, hb4⟩; obtain ⟨a4, n4, c4, rfl, hm4⟩ := ho4.shape; obtain rfl := ho4.len; have HO34 := Lib.hid (HO3.out.past hb4 (Nat.le_refl _)); have HR4 := Lib.hid ho4.reads; have HB4 := Lib.hid (HB3.out.trans (hb4.mono HB3.out.size)); have hz4 := HB4.out.size; clear ho4 hb4))
    | (at_builtin; (refine wpList_appr rfl (.tmp 13) (.tmp 15) rfl w.heap.size _ (A ++ B) rfl HO34.out _ C rfl HR4.out ?_ hz4 ?_); (rw [List.length_append]; omega); intro v5 w5 ho5 hold ha5; have HB5 := Lib.hid (HB4.out.trans (HO34.out.below ha5 hz4)); have hstr := ho5.reads.string; obtain ⟨a5, n5, c5, rfl, hm5⟩ := ho5.shape; clear ho5 hold ha5))
  go_ret
  exact ⟨by rw [HE.out, List.append_assoc]; rfl, HB5.out⟩
def NumIs (l : List UInt8) (bad : Bool) (n : Nat) (l' : List UInt8) (bad' : Bool) : Prop := (bad' = false ∧ bad = false ∧ rdNum 9 true l = some (n, l')) ∨ (bad' = true ∧ (bad = true ∨ rdNum 9 true l = none) ∧ n = 0)
theorem number_any {w : World} {p : Nat} {go : Option Nat} {l : List UInt8} {bad : Bool} (h : RD w p go l bad) :
    Calls Tryd.prog 47 #[.pointer (some ⟨p, 0, none⟩)] w fun e w' => ∃ n l' bad', e = .returned (.int .i64 (n : Nat)) ∧ RD w' p go l' bad' ∧ w.grownBy w' (some p) ∧ NumIs l bad n l' bad' := by
  cases bad with
  | true =>
    refine (rnumber_bad h).mono ?_
    rintro e w' ⟨rfl, h1, h2⟩
    exact ⟨0, _, true, rfl, h1, h2, .inr ⟨rfl, .inl rfl, rfl⟩⟩
  | false =>
    refine (rnumber h).mono ?_
    intro e w' hN
    cases e1 : rdNum 9 true l with
    | none =>
      rw [e1] at hN
      obtain ⟨h2, rfl, l', h1⟩ := hN
      exact ⟨0, l', true, rfl, h1, h2, .inr ⟨rfl, .inr e1, rfl⟩⟩
    | some y =>
      obtain ⟨n, r⟩ := y
      rw [e1] at hN
      obtain ⟨h2, rfl, h1⟩ := hN
      exact ⟨n, r, false, rfl, h1, h2, .inl ⟨rfl, rfl, e1⟩⟩
theorem three_yes {l l1 l2 l3 : List UInt8} {n1 n2 n3 : Nat} {b1 b2 b3 : Bool} (h1 : NumIs l false n1 l1 b1) (h2 : NumIs l1 b1 n2 l2 b2) (h3 : NumIs l2 b2 n3 l3 b3) (hb : b3 = false ∧ l3 = []) : l = ptrB n1 n2 n3 := by
  obtain ⟨hb3, rfl⟩ := hb
  rcases h3 with ⟨_, hb2, e3⟩ | ⟨h, _⟩
  · rcases h2 with ⟨_, hb1, e2⟩ | ⟨h, _⟩
    · rcases h1 with ⟨_, _, e1⟩ | ⟨h, _⟩
      · obtain ⟨f1, _⟩ := rdNum_is 9 true _ _ _ e1
        obtain ⟨f2, _⟩ := rdNum_is 9 true _ _ _ e2
        obtain ⟨f3, _⟩ := rdNum_is 9 true _ _ _ e3
        rw [f1, f2, f3]
        unfold ptrB
        simp
      · rw [hb1] at h; cases h
    · rw [hb2] at h; cases h
  · rw [hb3] at h; cases h
theorem three_of {l l1 l2 l3 : List UInt8} {n1 n2 n3 z a n : Nat} {b1 b2 b3 : Bool} (h1 : NumIs l false n1 l1 b1) (h2 : NumIs l1 b1 n2 l2 b2) (h3 : NumIs l2 b2 n3 l3 b3) (hz : z ≤ 65536) (ha : a ≤ 65536) (hn : n ≤ 65536) (e : l = ptrB z a n) : (b3 = false ∧ l3 = []) ∧ n1 = z ∧ n2 = a ∧ n3 = n := by
  subst e
  have e1 : rdNum 9 true (ptrB z a n) = some (z, num a ++ num n) := by unfold ptrB; rw [List.append_assoc]; exact rdNum9_num (by omega) _
  have e2 : rdNum 9 true (num a ++ num n) = some (a, num n) := rdNum9_num (by omega) _
  have e3 : rdNum 9 true (num n) = some (n, []) := by have := rdNum9_num (n := n) (by omega) []; rwa [List.append_nil] at this
  rcases h1 with ⟨rfl, _, f1⟩ | ⟨_, f1, _⟩
  · rw [e1, Option.some.injEq, Prod.mk.injEq] at f1
    obtain ⟨rfl, rfl⟩ := f1
    rcases h2 with ⟨rfl, _, f2⟩ | ⟨_, f2, _⟩
    · rw [e2, Option.some.injEq, Prod.mk.injEq] at f2
      obtain ⟨rfl, rfl⟩ := f2
      rcases h3 with ⟨rfl, _, f3⟩ | ⟨_, f3, _⟩
      · rw [e3, Option.some.injEq, Prod.mk.injEq] at f3
        obtain ⟨rfl, rfl⟩ := f3
        exact ⟨⟨rfl, rfl⟩, rfl, rfl, rfl⟩
      · rcases f3 with f3 | f3
        · cases f3
        · rw [e3] at f3; cases f3
    · rcases f2 with f2 | f2
      · cases f2
      · rw [e2] at f2; cases f2
  · rcases f1 with f1 | f1
    · cases f1
    · rw [e1] at f1; cases f1
end Go.Proofs.YtmhklmecpbdljaaDoor
