/- The walk of IkeyApart. -/
import Derived.Test.YtpnfpgjmpcnnnaaIkOrders
namespace Go.Proofs.Ytpnfpgjmpcnnnaa
open Go.RowKit
set_option linter.unusedVariables false

theorem keyBytes_le (l : List UInt8) (s k : Int) : (keyBytes l s k).length ≤ 2 * l.length + 9 := by
  unfold keyBytes six
  have := esc_le l
  simp only [List.length_append, List.length_cons, List.length_nil]
  omega

/-- a row that was made later lies in another block -/
theorem apart_of {w w3 : World} {B C : Nat} {v u : Value} {l m m' : List UInt8} {w4 : World} (h : OB w C v l) (_ : OB w B u m) (hu : OB w3 B u m') (hc : w3.heap.size ≤ w4.heap.size) (hC : w3.heap.size ≤ C := by exact Nat.le_refl _) : v.ownBlock = none ∨ v.ownBlock ≠ u.ownBlock := by
  cases e : v.ownBlock with
  | none => exact .inl rfl
  | some g =>
    refine .inr fun e2 => ?_
    have h1 := (h.lt e).1
    have h2 := (hu.lt e2.symm).2
    omega

theorem apart_of' {w w3 : World} {v u : Value} {B : Nat} {l m : List UInt8} (h : OB w w3.heap.size v l) (hu : OB w3 B u m) : u.ownBlock = none ∨ u.ownBlock ≠ v.ownBlock := by
  cases e : u.ownBlock with
  | none => exact .inl rfl
  | some g =>
    refine .inr fun e2 => ?_
    have h1 := (hu.lt e).2
    have h2 := (h.lt e2.symm).1
    omega

set_option maxRecDepth 100000 in
set_option maxHeartbeats 4000000 in
theorem apart_yes (u v : ByteArray) (s t k l : Int) (ta : Option Addr) (tc : Nat) (tl : List UInt8) (w : World) (hu : u.size ≤ 300) (hv : v.size ≤ 300) (ht : tl.length ≤ 100) (rt : RB w (.slice ta tl.length tc) tl) :
    Calls Try.prog 7 #[.agg #[.string u, .int .i64 s, .int .i64 k], .agg #[.string v, .int .i64 t, .int .i64 l], .slice ta tl.length tc] w fun e w' => e = .returned (.bool true) ∧ Below w.heap.size w w' := by
  have Rt := Lib.hid rt
  clear rt
  obtain ⟨q, hq⟩ : ∃ q, keq u s k v t l = q := ⟨_, rfl⟩
  have heq : ∀ w, (binOp .eql 23 (.agg #[.string u, .int .i64 s, .int .i64 k]) (.agg #[.string v, .int .i64 t, .int .i64 l])).run Try.prog w = .ok (.bool q) w := by
    intro w; rw [eqKey, hq]
  have Hq := Lib.hid hq
  clear hq
  have hG := ksG
  go_enter Try.func7, Try.ntmps7
  go_upto_region 1 with (fail)
  refine gen_wp (fun w' => Below w.heap.size w w' ∧ w'.cell? ⟨w.heap.size, 0, none⟩ = some (.string u) ∧ w'.cell? ⟨w.heap.size, 1, none⟩ = some (.int .i64 s) ∧ w'.cell? ⟨w.heap.size, 2, none⟩ = some (.int .i64 k) ∧
    w'.cell? ⟨w.heap.size + 1, 0, none⟩ = some (.string v) ∧ w'.cell? ⟨w.heap.size + 1, 1, none⟩ = some (.int .i64 t) ∧ w'.cell? ⟨w.heap.size + 1, 2, none⟩ = some (.int .i64 l)) ?_ ?_
  · refine ⟨?_, ?_, ?_, ?_, ?_, ?_, ?_⟩
    · (repeat first | exact Below.refl _ _ | refine Below.drew ?_ | refine Below.alloc ?_ (by simp <;> omega) _ | refine Below.setCell ?_ (by simp <;> omega) _)
    all_goals go_simp
  rintro w0 ⟨hb0, c0, c1, c2, c3, c4, c5⟩
  have s0 := cell_next c0
  have s1 := cell_next c1
  have s2 := cell_next c2
  have s3 := cell_next c3
  have s4 := cell_next c4
  have s5 := cell_next c5
  clear c0 c1 c2 c3 c4 c5
  have B0 := Below.refl w0.heap.size w0
  cases h1 : keyRight u s k with
  | false =>
    have H1 := Lib.hid h1
    clear h1
    cases h2 : keyRight v t l with
    | false =>
      have H2 := Lib.hid h2
      clear h2
      go_wp2_with (first
        | (go_at_call 10; (with_reducible refine (small_yes _ _ _ _ hu).mono ?_); rintro e w1 ⟨rfl, hb1⟩; have B1 := bnext B0 hb1)
        | (go_at_call 10; (with_reducible refine (small_yes _ _ _ _ hv).mono ?_); rintro e w2 ⟨rfl, hb2⟩; have B2 := bnext B1 hb2)
        | (go_at_call 17; (with_reducible refine (keybytes_bad u s k _ H1.out).mono ?_); rintro e w3 ⟨rfl, hb3⟩; have B3 := bnext B2 hb3)
        | (go_at_call 17; (with_reducible refine (keybytes_bad v t l _ H2.out).mono ?_); rintro e w4 ⟨rfl, hb4⟩; have B4 := bnext B3 hb4)
        | (go_at_call 11; (with_reducible refine (awake_any _).mono ?_); rintro e wz ⟨rfl, hbz⟩; have Bz := bnext B4 hbz))
      go_ret
      exact ⟨rfl, hb0.trans (Bz.mono hb0.size)⟩
    | true =>
      have H2 := Lib.hid h2
      clear h2
      go_wp2_with (first
        | (go_at_call 10; (with_reducible refine (small_yes _ _ _ _ hu).mono ?_); rintro e w1 ⟨rfl, hb1⟩; have B1 := bnext B0 hb1)
        | (go_at_call 10; (with_reducible refine (small_yes _ _ _ _ hv).mono ?_); rintro e w2 ⟨rfl, hb2⟩; have B2 := bnext B1 hb2)
        | (go_at_call 17; (with_reducible refine (keybytes_bad u s k _ H1.out).mono ?_); rintro e w3 ⟨rfl, hb3⟩; have B3 := bnext B2 hb3)
        | (go_at_call 17; (with_reducible refine (keybytes v t l _ H2.out).mono ?_); rintro e w4 ⟨v7, rfl, ho7, hb4⟩; have B4 := bnext B3 hb4; have Ho7 := Lib.hid ho7; clear ho7)
        | (go_at_call 11; (with_reducible refine (awake_any _).mono ?_); rintro e wz ⟨rfl, hbz⟩; have Bz := bnext B4 hbz))
      go_ret
      exact ⟨rfl, hb0.trans (Bz.mono hb0.size)⟩
  | true =>
    cases h2 : keyRight v t l with
    | false =>
      have H1 := Lib.hid h1
      have H2 := Lib.hid h2
      clear h1 h2
      go_wp2_with (first
        | (go_at_call 10; (with_reducible refine (small_yes _ _ _ _ hu).mono ?_); rintro e w1 ⟨rfl, hb1⟩; have B1 := bnext B0 hb1)
        | (go_at_call 10; (with_reducible refine (small_yes _ _ _ _ hv).mono ?_); rintro e w2 ⟨rfl, hb2⟩; have B2 := bnext B1 hb2)
        | (go_at_call 17; (with_reducible refine (keybytes u s k _ H1.out).mono ?_); rintro e w3 ⟨v6, rfl, ho6, hb3⟩; have B3 := bnext B2 hb3; have Ho6 := Lib.hid ho6; clear ho6)
        | (go_at_call 17; (with_reducible refine (keybytes_bad v t l _ H2.out).mono ?_); rintro e w4 ⟨rfl, hb4⟩; have B4 := bnext B3 hb4)
        | (go_at_call 11; (with_reducible refine (awake_any _).mono ?_); rintro e wz ⟨rfl, hbz⟩; have Bz := bnext B4 hbz))
      go_ret
      exact ⟨rfl, hb0.trans (Bz.mono hb0.size)⟩
    | true =>
      have Hne : Hid (q = false → kcmp u s k v t l ≠ 0) := fun e h => by
        have := kcmp_zero u v s t k l
        rw [h, Hq.out, e] at this
        exact absurd this (by decide)
      have Hcx : Hid (∀ X Y, q = false → Lib.compareBytes (keyBytes u.data.toList s k ++ X) (keyBytes v.data.toList t l ++ Y) = kcmp u s k v t l) := fun X Y e => by
        rw [cmp_keyBytes u v s t k l h1 h2, if_pos (Hne.out e)]
      have hlx := keyBytes_le u.data.toList s k
      have hly := keyBytes_le v.data.toList t l
      have hsu : u.data.toList.length = u.size := length_data u
      have hsv : v.data.toList.length = v.size := length_data v
      have hlx2 : (keyBytes u.data.toList s k).length ≤ 700 := by omega
      have hly2 : (keyBytes v.data.toList t l).length ≤ 700 := by omega
      have H1 := Lib.hid h1
      have H2 := Lib.hid h2
      clear h1 h2 hlx hly hsu hsv
      cases q with
      | true =>
        go_wp2_with (first
          | (go_at_call 10; (with_reducible refine (small_yes _ _ _ _ hu).mono ?_); rintro e w1 ⟨rfl, hb1⟩; have B1 := bnext B0 hb1)
          | (go_at_call 10; (with_reducible refine (small_yes _ _ _ _ hv).mono ?_); rintro e w2 ⟨rfl, hb2⟩; have B2 := bnext B1 hb2)
          | (go_at_call 17; (with_reducible refine (keybytes u s k _ H1.out).mono ?_); rintro e w3 ⟨v6, rfl, ho6, hb3⟩; have B3 := bnext B2 hb3; have Ho6 := Lib.hid ho6; clear ho6)
          | (go_at_call 17; (with_reducible refine (keybytes v t l _ H2.out).mono ?_); rintro e w4 ⟨v7, rfl, ho7, hb4⟩; have B4 := bnext B3 hb4; have Ho7 := Lib.hid ho7; clear ho7)
          | (go_at_call 11; (with_reducible refine (awake_any _).mono ?_); rintro e wz ⟨rfl, hbz⟩; have Bz := bnext B4 hbz))
        go_ret
        exact ⟨rfl, hb0.trans (Bz.mono hb0.size)⟩
      | false =>
        obtain ⟨b, hb⟩ : ∃ b, decide (kcmp u s k v t l < 0) = b := ⟨_, rfl⟩
        have K1 : Hid (decide (Lib.compareBytes (keyBytes u.data.toList s k) (keyBytes v.data.toList t l) < 0) = b) := by
          have := Hcx.out [] [] rfl
          rw [List.append_nil, List.append_nil] at this
          rw [this]; exact hb
        have K2 : Hid (decide (Lib.compareBytes (keyBytes u.data.toList s k ++ tl) (keyBytes v.data.toList t l) < 0) = b) := by
          have := Hcx.out tl [] rfl
          rw [List.append_nil] at this
          rw [this]; exact hb
        have K3 : Hid (decide (Lib.compareBytes (keyBytes u.data.toList s k) (keyBytes v.data.toList t l ++ tl) < 0) = b) := by
          have := Hcx.out [] tl rfl
          rw [List.append_nil] at this
          rw [this]; exact hb
        clear hb Hcx Hne
        generalize hkx : keyBytes u.data.toList s k = kx at hlx2 K1 K2 K3
        generalize hky : keyBytes v.data.toList t l = ky at hly2 K1 K2 K3
        have Hkx := Lib.hid hkx
        have Hky := Lib.hid hky
        clear hkx hky
        go_wp2_with (first
          | (go_at_call 10; (with_reducible refine (small_yes _ _ _ _ hu).mono ?_); rintro e w1 ⟨rfl, hb1⟩; have B1 := bnext B0 hb1)
          | (go_at_call 10; (with_reducible refine (small_yes _ _ _ _ hv).mono ?_); rintro e w2 ⟨rfl, hb2⟩; have B2 := bnext B1 hb2)
          | (go_at_call 17; (with_reducible refine (keybytes u s k _ H1.out).mono ?_); rintro e w3 ⟨v6, rfl, ho6, hb3⟩; have B3 := bnext B2 hb3; have Ho6 : Hid (OB w3 w2.heap.size v6 kx) := Hkx.out ▸ ho6; clear ho6)
          | (go_at_call 17; (with_reducible refine (keybytes v t l _ H2.out).mono ?_); rintro e w4 ⟨v7, rfl, ho7, hb4⟩; have B4 := bnext B3 hb4; have Ho7 : Hid (OB w4 w3.heap.size v7 ky) := Hky.out ▸ ho7; clear ho7; have O6 := Lib.hid (Ho6.out.past hb4 (Nat.le_refl _)))
          | (go_at_call 18; (with_reducible refine (less_b O6.out.reads Ho7.out.reads b K1.out).mono ?_); rintro e w5 ⟨rfl, hb5⟩; have B5 := bnext B4 hb5; have P6 := Lib.hid (O6.out.past hb5 (Nat.le_refl _)); have P7 := Lib.hid (Ho7.out.past hb5 (Nat.le_refl _)); have m5 : w2.heap.size ≤ w5.heap.size := Nat.le_trans hb3.size (Nat.le_trans hb4.size hb5.size); have T5 := Lib.hid (Rt.out.below (hb0.trans (B5.mono hb0.size))))
          | (at_builtin; refine wpList_appr rfl (.tmp 51) (.tmp 52) rfl w2.heap.size v6 kx rfl P6.out _ tl rfl T5.out ?_ m5 ?_; (first | omega | (simp only [List.length_cons, List.length_nil]; omega) | (simp only [List.length_append, List.length_cons, List.length_nil]; omega)); intro v8 w6 ho8 ho6' ha8; have hA8 := P6.out.below ha8 m5; have Ho8 := Lib.hid ho8; have Ho6' := Lib.hid ho6'; clear ho8 ho6'; have P7' := Lib.hid (P7.out.kept ha8.grown (apart_of P7.out P6.out Ho6.out hb4.size)); have m6 : w2.heap.size ≤ w6.heap.size := Nat.le_trans m5 ha8.grown.size; have Bw6 := (hb0.trans (B5.mono hb0.size)).trans (hA8.mono (Nat.le_trans hb0.size B2.size)); have T6 := Lib.hid (Rt.out.below Bw6))
          | (go_at_call 18; (with_reducible refine (less_b Ho8.out.reads P7'.out.reads b K2.out).mono ?_); rintro e w7 ⟨rfl, hb7⟩; have m7 : w3.heap.size ≤ w7.heap.size := Nat.le_trans hb4.size (Nat.le_trans hb5.size (Nat.le_trans ha8.grown.size hb7.size)); have Q6 := Lib.hid (Ho6'.out.past hb7 (Nat.le_refl _)); have Q7 := Lib.hid (P7'.out.past hb7 (Nat.le_refl _)); have Bw7 := Bw6.trans (hb7.mono Bw6.size); have T7 := Lib.hid (Rt.out.below Bw7))
          | (at_builtin; refine wpList_appr rfl (.tmp 60) (.tmp 61) rfl w3.heap.size v7 ky rfl Q7.out _ tl rfl T7.out ?_ m7 ?_; (first | omega | (simp only [List.length_cons, List.length_nil]; omega) | (simp only [List.length_append, List.length_cons, List.length_nil]; omega)); intro v9 w8 ho9 ho7' ha9; have hA9 := Q7.out.below ha9 m7; have Ho9 := Lib.hid ho9; clear ho9 ho7'; have Q6' := Lib.hid (Q6.out.kept ha9.grown (apart_of' Q7.out Ho6.out)); have Bw8 := Bw7.trans (hA9.mono (Nat.le_trans hb0.size B3.size)))
          | (go_at_call 18; (with_reducible refine (less_b Q6'.out.reads Ho9.out.reads b K3.out).mono ?_); rintro e w9 ⟨rfl, hb9⟩; have Bw9 := Bw8.trans (hb9.mono Bw8.size))
          | (go_at_call 11; (with_reducible refine (awake_any _).mono ?_); rintro e wz ⟨rfl, hbz⟩; have Bwz := Bw9.trans (hbz.mono Bw9.size)))
        go_ret
        exact ⟨rfl, Bwz⟩

set_option maxRecDepth 100000 in
set_option maxHeartbeats 1000000 in
theorem apart_no (u v : ByteArray) (s t k l : Int) (ta : Option Addr) (tc : Nat) (tl : List UInt8) (w : World) (mu : u.size ≤ maxLen) (mv : v.size ≤ maxLen) (mt : tl.length ≤ maxLen) (h : 300 < u.size ∨ 300 < v.size ∨ 100 < tl.length) :
    Calls Try.prog 7 #[.agg #[.string u, .int .i64 s, .int .i64 k], .agg #[.string v, .int .i64 t, .int .i64 l], .slice ta tl.length tc] w fun e w' => e = .returned (.bool true) ∧ Below w.heap.size w w' := by
  go_enter Try.func7, Try.ntmps7
  go_upto_region 1 with (fail)
  refine gen_wp (fun w' => Below w.heap.size w w' ∧ w'.cell? ⟨w.heap.size, 0, none⟩ = some (.string u) ∧ w'.cell? ⟨w.heap.size, 1, none⟩ = some (.int .i64 s) ∧ w'.cell? ⟨w.heap.size, 2, none⟩ = some (.int .i64 k) ∧
    w'.cell? ⟨w.heap.size + 1, 0, none⟩ = some (.string v) ∧ w'.cell? ⟨w.heap.size + 1, 1, none⟩ = some (.int .i64 t) ∧ w'.cell? ⟨w.heap.size + 1, 2, none⟩ = some (.int .i64 l)) ?_ ?_
  · refine ⟨?_, ?_, ?_, ?_, ?_, ?_, ?_⟩
    · (repeat first | exact Below.refl _ _ | refine Below.drew ?_ | refine Below.alloc ?_ (by simp <;> omega) _ | refine Below.setCell ?_ (by simp <;> omega) _)
    all_goals go_simp
  rintro w0 ⟨hb0, c0, c1, c2, c3, c4, c5⟩
  have s0 := cell_next c0
  have s1 := cell_next c1
  have s2 := cell_next c2
  have s3 := cell_next c3
  have s4 := cell_next c4
  have s5 := cell_next c5
  clear c0 c1 c2 c3 c4 c5
  have B0 := Below.refl w0.heap.size w0
  by_cases hu : u.size ≤ 300
  · by_cases hv : v.size ≤ 300
    · have ht : 100 < tl.length := by omega
      clear h
      unfold maxLen at mt
      go_wp2_with (first
        | (go_at_call 10; (with_reducible refine (small_yes _ _ _ _ hu).mono ?_); rintro e w1 ⟨rfl, hb1⟩; have B1 := bnext B0 hb1)
        | (go_at_call 10; (with_reducible refine (small_yes _ _ _ _ hv).mono ?_); rintro e w2 ⟨rfl, hb2⟩; have B2 := bnext B1 hb2)
        | (go_at_call 11; (with_reducible refine (awake_any _).mono ?_); rintro e w4 ⟨rfl, hb4⟩; have B4 := bnext B2 hb4))
      go_ret
      exact ⟨rfl, hb0.trans (B4.mono hb0.size)⟩
    · have hv : 300 < v.size := by omega
      clear h
      go_wp2_with (first
        | (go_at_call 10; (with_reducible refine (small_yes _ _ _ _ hu).mono ?_); rintro e w1 ⟨rfl, hb1⟩; have B1 := bnext B0 hb1)
        | (go_at_call 10; (with_reducible refine (small_no _ _ _ _ mv hv).mono ?_); rintro e w2 ⟨rfl, hb2⟩; have B2 := bnext B1 hb2)
        | (go_at_call 11; (with_reducible refine (awake_any _).mono ?_); rintro e w4 ⟨rfl, hb4⟩; have B4 := bnext B2 hb4))
      go_ret
      exact ⟨rfl, hb0.trans (B4.mono hb0.size)⟩
  · have hu : 300 < u.size := by omega
    clear h
    go_wp2_with (first
      | (go_at_call 10; (with_reducible refine (small_no _ _ _ _ mu hu).mono ?_); rintro e w1 ⟨rfl, hb1⟩; have B1 := bnext B0 hb1)
      | (go_at_call 11; (with_reducible refine (awake_any _).mono ?_); rintro e w4 ⟨rfl, hb4⟩; have B4 := bnext B1 hb4))
    go_ret
    exact ⟨rfl, hb0.trans (B4.mono hb0.size)⟩
end Go.Proofs.Ytpnfpgjmpcnnnaa
