/- The walk of WireSizes. -/
import Derived.Test.YtpdkekpdahefgaaAwake02
import Derived.Test.YtpdkekpdahefgaaRef2
namespace Go.Proofs.Ytpdkekpdahefgaa
open Go.RowKit
set_option linter.unusedVariables false

/-- a longer form of a number: its last byte counts on, and a 0 stands behind it -/
def longer (l : List UInt8) : List UInt8 := l.set (l.length - 1) (UInt8.ofNat ((l.getD (l.length - 1) 0).toNat + 128)) ++ [0]
theorem num_last : ∀ (k n : Nat), n < 128 ^ (k + 1) → ((num n).getD ((num n).length - 1) 0).toNat < 128
  | k, n, h => by
    by_cases h1 : n ≤ 127
    · rw [num_small h1]
      show (UInt8.ofNat n).toNat < 128
      rw [toNat_ofNat8]; omega
    · cases k with
      | zero => simp at h; omega
      | succ k =>
        have ih := num_last k (n / 128) (by rw [Nat.pow_succ] at h; omega)
        rw [num_big (by omega)]
        have hp := num_pos (n / 128)
        generalize num (n / 128) = t at *
        obtain ⟨m, hm⟩ : ∃ m, t.length = m + 1 := ⟨t.length - 1, by omega⟩
        simp only [List.length_cons, hm, Nat.add_sub_cancel, List.getD_cons_succ] at ih ⊢
        exact ih
theorem rdNum_longer : ∀ (k n f : Nat) (b : Bool), n < 128 ^ (k + 1) → rdNum f b (longer (num n)) = none
  | k, n, f, b, h => by
    cases f with
    | zero => rfl
    | succ f =>
      by_cases h1 : n ≤ 127
      · have e : longer (num n) = [UInt8.ofNat (n + 128), 0] := by
          have e1 : (UInt8.ofNat n).toNat = n := by rw [toNat_ofNat8]; omega
          rw [num_small h1]; simp only [longer, List.length_cons, List.length_nil, Nat.zero_add, Nat.sub_self, List.getD_cons_zero, List.set_cons_zero, e1]; rfl
        have e2 : (UInt8.ofNat (n + 128)).toNat = n + 128 := by rw [toNat_ofNat8]; omega
        rw [e, rdNum_more (by rw [e2]; omega)]
        cases f with
        | zero => rfl
        | succ f => rw [rdNum_long rfl]; rfl
      · cases k with
        | zero => omega
        | succ k =>
          have ih := rdNum_longer k (n / 128) f false (by rw [Nat.pow_succ] at h; omega)
          have e1 : (UInt8.ofNat (n % 128 + 128)).toNat = n % 128 + 128 := by rw [toNat_ofNat8]; omega
          have e : longer (num n) = UInt8.ofNat (n % 128 + 128) :: longer (num (n / 128)) := by
            rw [num_big (by omega)]
            have hp := num_pos (n / 128)
            generalize num (n / 128) = t at *
            obtain ⟨m, hm⟩ : ∃ m, t.length = m + 1 := ⟨t.length - 1, by omega⟩
            simp [longer, hm]
          rw [e, rdNum_more (by rw [e1]; omega), ih]; rfl

set_option maxRecDepth 100000 in
set_option maxHeartbeats 4000000 in
theorem wsizes_pos (n : Nat) (w : World) (hn : n < 9223372036854775808) :
    Calls Try.prog 3 #[.int .i64 n] w fun e w' => e = .returned (.bool true) ∧ Below w.heap.size w w' := by
  have h9 := num_len9 hn
  have hp1 := num_pos n
  have hlast := num_last 8 n (by omega)
  have hlg := rdNum_longer 8 n 9 true (by omega)
  have hrd := rdNum9_num hn []
  rw [List.append_nil] at hrd
  have Hlg := Lib.hid hlg
  have Hrd9 := Lib.hid hrd
  clear hlg hrd
  go_enter Try.func3, Try.ntmps3
  go_wp2_with fail; (with_reducible refine (refnumber n _ hn).mono ?_); rintro e w1 ⟨v1, rfl, ho1, hb1⟩
  obtain ⟨g, cap, rfl, hg1, hg2, hcap, hcell⟩ := ho1.form hp1
  have Ho1 := Lib.hid ho1
  have hr1 := newreader_any ho1.reads (by omega)
  have Hr1 := Lib.hid hr1
  clear ho1 hr1
  go_wp2_with fail; (with_reducible refine (Hr1.out).mono ?_); rintro e w2 ⟨p, go, rfl, hp, hgo, hrd, hb2⟩
  have B2 := hb1.trans (hb2.mono hb1.size)
  go_wp2_with fail; (with_reducible refine (size_any n _ hn).mono ?_); rintro e w3 ⟨rfl, hw3⟩
  subst hw3
  have hN := rnumber hrd
  rw [Hrd9.out] at hN
  have HN := Lib.hid hN
  have Hcell := Lib.hid hcell
  clear hN hrd hcell
  go_wp2_with fail; (with_reducible refine (HN.out).mono ?_); rintro e w4 ⟨hg4, rfl, hrd4⟩
  have B4 : Below w1.heap.size w1 w4 := hb2.grown hg4 hb2.size (fun k hk => by cases hk; exact hp)
  have hd := done_any hrd4 0 (by simp)
  have Hd := Lib.hid hd
  clear hd hrd4 hg4
  go_wp2_with fail; (with_reducible refine (Hd.out).mono ?_); rintro e w5 ⟨rfl, hw5⟩
  subst hw5
  have hc := (B4.cell (p := ⟨g, (num n).length - 1, none⟩) hg2).trans (Hcell.out ((num n).length - 1) (by omega))
  have hx : (num n)[(num n).length - 1]'(by omega) = (num n).getD ((num n).length - 1) 0 := by rw [List.getD, List.getElem?_eq_getElem (by omega)]; rfl
  rw [hx] at hc
  clear hx
  generalize hX : (num n).getD ((num n).length - 1) 0 = x at *
  have HX := Lib.hid hX
  replace hc : w4.cell? ⟨g, (num n).length - 1, none⟩ = some (.int .u8 (x.toNat : Int)) := hc
  have Ho4 := Lib.hid (Ho1.out.past B4 (Nat.le_refl _))
  have hfz : w4.frozen? ⟨g, (num n).length - 1, none⟩ = false := World.ownsRow.frozenAt Ho4.out _
  have hi : (((num n).length : Int) - 1).toNat = (num n).length - 1 := by omega
  clear hX
  have hx2 : bv (UInt8.ofNat (x.toNat + 128)) = .int .u8 ((x.toNat : Int) + 128) := by
    have : (UInt8.ofNat (x.toNat + 128)).toNat = x.toNat + 128 := by rw [toNat_ofNat8]; omega
    simp only [bv, this]; rfl
  have Hx2 := Lib.hid hx2
  clear hx2
  go_upto_region 8 with fail
  refine gen_wp (fun w' => OB w' w.heap.size (.slice (some ⟨g, 0, none⟩) (num n).length cap) ((num n).set ((num n).length - 1) (UInt8.ofNat (x.toNat + 128))) ∧ Below w.heap.size w w') ?_ ?_
  · rw [← Hx2.out]
    exact ⟨Ho4.out.set _ _, (hb1.trans (B4.mono hb1.size)).setCell hg1 _⟩
  rintro w5 ⟨ho5, B5⟩
  have Ho5 := Lib.hid ho5
  have hl5 : ((num n).set ((num n).length - 1) (UInt8.ofNat (x.toNat + 128))).length = (num n).length := List.length_set
  have Hl5 := Lib.hid hl5
  clear ho5 hc hfz hi Hcell Ho1 Ho4 hl5
  go_wp2_with (at_builtin; go_loud (refine wpList_appb rfl (.tmp 42) (.tmp 43) rfl w.heap.size _ ((num n).set ((num n).length - 1) (UInt8.ofNat (x.toNat + 128))) rfl Ho5.out #[.int .u8 0] 1 1 [0] rfl rfl rfl (by decide) ?_ B5.size ?_); (rw [Hl5.out]; simp only [List.length_cons, List.length_nil]; omega); intro v6 w6 ho6 ha6)
  have h6 : OB w6 w.heap.size v6 (longer (num n)) := by unfold longer; rw [HX.out]; exact ho6
  have B6 := B5.trans (Ho5.out.below ha6 B5.size)
  obtain ⟨a6, n6, c6, rfl, _⟩ := h6.shape
  have hr6 := newreader_any h6.reads (by simp only [longer, List.length_append, List.length_set, List.length_cons, List.length_nil]; omega)
  have Hr6 := Lib.hid hr6
  clear hr6 h6 ho6
  refine Hr6.out.mono ?_
  rintro e w7 ⟨p7, go7, rfl, hp7, hgo7, hrd7, hb7⟩
  have B7 := B6.trans (hb7.mono B6.size)
  have hN7 := rnumber hrd7
  rw [Hlg.out] at hN7
  have HN7 := Lib.hid hN7
  clear hN7 hrd7
  go_wp2_with fail; (with_reducible refine (HN7.out).mono ?_); rintro e w8 ⟨hg8, rfl, l8, hrd8⟩
  have B8 : Below w.heap.size w w8 := B7.grown hg8 B7.size (fun k hk => by cases hk; exact Nat.le_trans B6.size hp7)
  have hb8 := bad_any hrd8
  have Hb8 := Lib.hid hb8
  clear hb8 hrd8 hg8
  go_wp2_with fail; (with_reducible refine (Hb8.out).mono ?_); rintro e w9 ⟨rfl, hw9⟩
  subst hw9
  go_wp2_with fail; (with_reducible refine (awake_any _).mono ?_); rintro e wa ⟨rfl, hba⟩
  go_wp2
  go_ret
  exact ⟨rfl, bnext B8 hba⟩

theorem wsizes_any (n : Int) (w : World) (hn : n ≤ 9223372036854775807) :
    Calls Try.prog 3 #[.int .i64 n] w fun e w' => e = .returned (.bool true) ∧ Below w.heap.size w w' := by
  by_cases h : n < 0
  · go_enter Try.func3, Try.ntmps3
    go_wp2_with fail; (with_reducible refine (size_neg n _ h).mono ?_); rintro e w3 ⟨rfl, hw3⟩
    subst hw3
    go_wp2_with fail; (with_reducible refine (awake_any _).mono ?_); rintro e wa ⟨rfl, hba⟩
    go_wp2
    go_ret
    exact ⟨rfl, hba⟩
  · obtain ⟨m, rfl⟩ := Int.eq_ofNat_of_zero_le (Int.not_lt.1 h)
    exact wsizes_pos m w (by omega)
end Go.Proofs.Ytpdkekpdahefgaa
