/- IkeyChecks: its walk. -/
import Derived.Test.YtpnfpgjmpcnnnaaIkParses
import Derived.Test.YtpnfpgjmpcnnnaaRefB
namespace Go.Proofs.Ytpnfpgjmpcnnnaa
open Go.RowKit
set_option linter.unusedVariables false

def ParseYes (w : World) (u : ByteArray) (s k : Int) (e : Ending) (w' : World) : Prop :=
  e = .returned (.tuple #[.agg #[.string u, .int .i64 s, .int .i64 k], .int .i64 0]) ∧ Below w.heap.size w w'

theorem parse_right {w : World} {v : Value} {u : ByteArray} {s k : Int} (hr : keyRight u s k = true) (h : RB w v (keyBytes u.data.toList s k)) (hl : (keyBytes u.data.toList s k).length ≤ 140737488355327) :
    Calls Try.prog 24 #[v] w (ParseYes w u s k) := by
  obtain ⟨ao, c, rfl, hc⟩ := h.shape
  refine (parse_any h hl).mono ?_
  have hr' := hr
  simp only [keyRight, decide_eq_true_eq] at hr'
  obtain ⟨_, _, h3, h4, h5, h6⟩ := hr'
  obtain ⟨r, e1, e2⟩ := parse_back (u := u.data.toList) h3 h4 h5 h6
  have e3 : (1099511627776 - ((1099511627776 - s).toNat : Int)) = s := by omega
  have e4 : (255 - ((255 - k).toNat : Int)) = k := by omega
  have e5 : (⟨u.data.toList.toArray⟩ : ByteArray) = u := rfl
  rintro e w' ⟨hb, ⟨u', r', a, k', h1, h2, h3, rfl⟩ | ⟨h1, rfl⟩⟩
  · rw [e1] at h1
    simp only [Option.some.injEq, Prod.mk.injEq] at h1
    obtain ⟨rfl, rfl⟩ := h1
    rw [e2] at h2
    simp only [Option.some.injEq, Prod.mk.injEq] at h2
    obtain ⟨rfl, rfl⟩ := h2
    exact ⟨by rw [e3, e4, e5], hb⟩
  · have hf := h1 _ _ _ _ e1 e2
    rw [e3, e4, e5, hr] at hf
    cases hf

theorem keyBytes_len (l : List UInt8) (s k : Int) : (keyBytes l s k).length ≤ 2 * l.length + 9 := by
  have := esc_le l
  simp only [keyBytes, six, List.length_append, List.length_cons, List.length_nil]
  omega

set_option maxRecDepth 100000 in
set_option maxHeartbeats 4000000 in
theorem checks_yes (u : ByteArray) (s k : Int) (w : World) (hu : u.size ≤ 300) :
    Calls Try.prog 8 #[.agg #[.string u, .int .i64 s, .int .i64 k]] w fun e w' => e = .returned (.bool true) ∧ Below w.heap.size w w' := by
  have mu : u.size ≤ maxLen := Nat.le_trans hu (by decide)
  go_enter Try.func8, Try.ntmps8
  go_upto_region 1 with (fail)
  refine gen_wp (fun w' => Below w.heap.size w w' ∧ w'.cell? ⟨w.heap.size, 0, none⟩ = some (.string u) ∧ w'.cell? ⟨w.heap.size, 1, none⟩ = some (.int .i64 s) ∧ w'.cell? ⟨w.heap.size, 2, none⟩ = some (.int .i64 k)) ?_ ?_
  · refine ⟨?_, ?_, ?_, ?_⟩
    · (repeat first | exact Below.refl _ _ | refine Below.drew ?_ | refine Below.alloc ?_ (by simp <;> omega) _ | refine Below.setCell ?_ (by simp <;> omega) _)
    all_goals go_simp
  rintro w0 ⟨hb0, c0, c1, c2⟩
  have s0 := cell_next c0
  have s1 := cell_next c1
  have s2 := cell_next c2
  clear c0 c1 c2
  have B0 := Below.refl w0.heap.size w0
  cases h1 : keyRight u s k with
  | false =>
    have H1 := Lib.hid h1
    clear h1
    go_wp2_with (first
      | (go_at_call 10; (with_reducible refine (small_yes _ _ _ _ hu).mono ?_); rintro e w1 ⟨rfl, hb1⟩; have B1 := bnext B0 hb1)
      | (go_at_call 17; (with_reducible refine (keybytes_bad u s k _ H1.out).mono ?_); rintro e w6 ⟨rfl, hb6⟩; have B6 := bnext B1 hb6)
      | (go_at_call 16; (with_reducible refine (lawref_any u s k _).mono ?_); rintro e w2 ⟨rfl, hb2⟩; have B2 := bnext B6 hb2)
      | (go_at_call 21; (with_reducible refine (refright u s k _ mu).mono ?_); rintro e w3 ⟨rfl, hb3⟩; have B3 := bnext B2 hb3; rw [H1.out])
      | (go_at_call 22; (with_reducible refine (check_bad u s k _ H1.out).mono ?_); rintro e w7 ⟨rfl, hw7⟩; have hb7 := below_of_alloc hw7; have B7 := bnext B3 hb7; clear hw7)
      | (go_at_call 11; (with_reducible refine (awake_any _).mono ?_); rintro e wb ⟨rfl, hbb⟩; have Bb := bnext B7 hbb))
    go_ret
    exact ⟨rfl, hb0.trans (Bb.mono hb0.size)⟩
  | true =>
    have H1 := Lib.hid h1
    have hlen : Hid ((keyBytes u.data.toList s k).length ≤ 140737488355327) := by
      have := keyBytes_len u.data.toList s k
      have e : u.data.toList.length = u.size := length_data u
      exact Lib.hid (by omega)
    clear h1
    go_wp2_with fail; (with_reducible refine (small_yes _ _ _ _ hu).mono ?_); rintro e w1 ⟨rfl, hb1⟩
    have B1 := bnext B0 hb1
    go_wp2_with fail; (with_reducible refine (keybytes u s k _ H1.out).mono ?_); rintro e w2 ⟨v2, rfl, ho2, hb2⟩
    have B2 := bnext B1 hb2
    have Ho2 := Lib.hid ho2
    clear ho2
    have C2 := Below.refl w2.heap.size w2
    go_wp2_with fail; (with_reducible refine (lawref_any u s k _).mono ?_); rintro e w3 ⟨rfl, hb3⟩
    have B3 := bnext B2 hb3
    have C3 := bnext C2 hb3
    go_wp2_with fail; (with_reducible refine (refright u s k _ mu).mono ?_); rintro e w4 ⟨rfl, hb4⟩
    rw [H1.out]
    have B4 := bnext B3 hb4
    have C4 := bnext C3 hb4
    go_wp2_with fail; (with_reducible refine (check_ok u s k _ H1.out).mono ?_); rintro e w5 ⟨rfl, hw5⟩
    have hb5 := below_of_alloc hw5
    clear hw5
    have B5 := bnext B4 hb5
    have C5 := bnext C4 hb5
    go_wp2_with fail; (with_reducible refine (lawref_any u s k _).mono ?_); rintro e w6 ⟨rfl, hb6⟩
    have B6 := bnext B5 hb6
    have C6 := bnext C5 hb6
    go_wp2_with fail; (with_reducible refine (refbytes u s k _ H1.out).mono ?_); rintro e w7 ⟨v7, rfl, ho7, hb7⟩
    have B7 := bnext B6 hb7
    have C7 := bnext C6 hb7
    have R2 := Lib.hid (Ho2.out.reads.below C7)
    have R7 := Lib.hid ho7.reads
    clear ho7
    go_wp2_with fail; (with_reducible refine (same_b R2.out R7.out true (by simp)).mono ?_); rintro e w8 ⟨rfl, hb8⟩
    have B8 := bnext B7 hb8
    have R8 := Lib.hid (R2.out.below hb8)
    go_wp2_with fail; (with_reducible refine (parse_right H1.out R8.out hlen.out).mono ?_); rintro e w9 ⟨rfl, hb9⟩
    have B9 := bnext B8 hb9
    go_upto_region 9 with fail
    refine gen_wp (fun w' => Below w0.heap.size w0 w' ∧ w'.cell? ⟨w9.heap.size, 0, none⟩ = some (.string u) ∧ w'.cell? ⟨w9.heap.size, 1, none⟩ = some (.int .i64 s) ∧ w'.cell? ⟨w9.heap.size, 2, none⟩ = some (.int .i64 k)) ?_ ?_
    · refine ⟨B9.alloc B9.size _, ?_, ?_, ?_⟩
      all_goals go_simp
    rintro wa ⟨Ba, a0, a1, a2⟩
    have e0 := s0 wa Ba
    have e1 := s1 wa Ba
    have e2 := s2 wa Ba
    clear s0 s1 s2
    have heq : ∀ w, (binOp .eql 23 (.agg #[.string u, .int .i64 s, .int .i64 k]) (.agg #[.string u, .int .i64 s, .int .i64 k])).run Try.prog w = .ok (.bool true) w := by
      intro w; rw [eqKey, show keq u s k u s k = true by simp [keq]]
    have hG := ksG
    go_wp2_with (go_at_call 11; (with_reducible refine (awake_any _).mono ?_); rintro e wb ⟨rfl, hbb⟩; have Bb := bnext Ba hbb)
    go_ret
    exact ⟨rfl, hb0.trans (Bb.mono hb0.size)⟩

theorem checks_no (u : ByteArray) (s k : Int) (w : World) (hu : u.size ≤ maxLen) (h : 300 < u.size) :
    Calls Try.prog 8 #[.agg #[.string u, .int .i64 s, .int .i64 k]] w fun e w' => e = .returned (.bool true) ∧ Below w.heap.size w w' := by
  go_enter Try.func8, Try.ntmps8
  go_wp2_with fail; (with_reducible refine (small_no u s k _ hu h).mono ?_); rintro e w1 ⟨rfl, hb1⟩
  have B1 : Below w.heap.size w w1 := ((Below.refl _ w).alloc (Nat.le_refl _) _).trans (hb1.mono (by simp))
  go_wp2_with fail; (with_reducible refine (awake_any _).mono ?_); rintro e w2 ⟨rfl, hb2⟩
  go_wp2
  go_ret
  exact ⟨rfl, bnext B1 hb2⟩

theorem checks_any (u : ByteArray) (s k : Int) (w : World) (hu : u.size ≤ maxLen) :
    Calls Try.prog 8 #[.agg #[.string u, .int .i64 s, .int .i64 k]] w fun e w' => e = .returned (.bool true) ∧ Below w.heap.size w w' := by
  by_cases h : u.size ≤ 300
  · exact checks_yes u s k w h
  · exact checks_no u s k w hu (by omega)
end Go.Proofs.Ytpnfpgjmpcnnnaa
