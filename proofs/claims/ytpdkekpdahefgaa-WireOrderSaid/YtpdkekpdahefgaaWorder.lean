/- The walk of WireOrder. -/
import Derived.Test.YtpdkekpdahefgaaAwake02
import Derived.Test.YtpdkekpdahefgaaRdText
import Derived.Test.YtpdkekpdahefgaaRef2
import Derived.Test.YtpdkekpdahefgaaInts
import Derived.Test.YtpdkekpdahefgaaLess
namespace Go.Proofs.Ytpdkekpdahefgaa
open Go.RowKit
set_option linter.unusedVariables false

/-- numbers, one behind the other -/
def nums (L : List Int) : List UInt8 := L.flatMap fun x => num x.toNat
theorem nums_snoc (L : List Int) (k : Nat) (h : k < L.length) : nums (L.take (k + 1)) = nums (L.take k) ++ num (L[k]).toNat := by
  unfold nums; rw [List.take_succ_eq_append_getElem h, List.flatMap_append]; simp only [List.flatMap_cons, List.flatMap_nil, List.append_nil]
theorem nums_drop (L : List Int) (k : Nat) (h : k < L.length) : nums (L.drop k) = num (L[k]).toNat ++ nums (L.drop (k + 1)) := by
  unfold nums; rw [List.drop_eq_getElem_cons h, List.flatMap_cons]
theorem nums_len (L : List Int) (hb : ∀ x ∈ L, x ≤ 9223372036854775807) : ∀ (k : Nat), k ≤ L.length → (nums (L.take k)).length ≤ 9 * k
  | 0, _ => by simp [nums]
  | k + 1, h => by
    have ih := nums_len L hb k (by omega)
    have h9 := num_len9 (n := (L[k]).toNat) (by have := hb _ (List.getElem_mem (show k < L.length by omega)); omega)
    rw [nums_snoc L k h]
    simp only [List.length_append]
    omega
theorem wr_new_below2 (w : World) : Below w.heap.size w (w.alloc (.cells #[.slice none 0 0, .bool false] 34)) := (Below.refl _ w).alloc (Nat.le_refl _) _

set_option maxRecDepth 100000 in
set_option maxHeartbeats 4000000 in
theorem worder_any {w : World} {a : Option Addr} {c : Nat} {L : List Int} (hL : IR w a L) (hl : L.length ≤ maxLen) {ar : Option Addr} {cr : Nat} {R : List UInt8} (hR : RB w (.slice ar R.length cr) R) (hrl : R.length ≤ maxLen) :
    Calls Try.prog 4 #[.slice a L.length c, .slice ar R.length cr] w fun e w' => e = .returned (.bool true) ∧ Below w.heap.size w w' := by
  unfold maxLen at hl hrl
  have HL := Lib.hid hL
  have HR := Lib.hid hR
  clear hL hR
  by_cases h60 : L.length ≤ 60
  · by_cases h500 : R.length ≤ 500
    · have hw0 := WR.new w
      have hb0 := wr_new_below2 w
      have Hw0 := Lib.hid hw0
      have Hb0 := Lib.hid hb0
      clear hw0 hb0
      have Hmx : Hid (∀ x ∈ L, x ≤ 9223372036854775807) := Lib.hid fun x hx => (HL.out.2 x hx).2
      go_enter Try.func4, Try.ntmps4
      go_wp2
      go_loopw [6, 27] (fun sz i wr => ∃ (k : Nat) (v' : Value), k ≤ L.length ∧ i = .int .i64 k ∧ sz = .int .i64 (nums (L.take k)).length ∧ WR wr w.heap.size w.heap.size v' (nums (L.take k)) false ∧ (∀ (j : Nat) (hj : j < L.length), j < k → 0 ≤ L[j]) ∧ Below w.heap.size w wr) (fun _ i _ => L.length - (intOf i).toNat)
      case atStart => exact ⟨0, _, Nat.zero_le _, rfl, by simp [nums], Hw0.out, fun j hj hk => by omega, Hb0.out⟩
      case round =>
        obtain ⟨k, v', hk, rfl, rfl, hw, hall, hbr⟩ := hrel
        have Hw := Lib.hid hw
        have Hall := Lib.hid hall
        have hz := hbr.size
        have hnl := nums_len L Hmx.out k hk
        clear hw hall
        by_cases hlt : k < L.length
        · obtain ⟨b, off, rfl, d0, lo, hi⟩ := HL.out.cell hbr k hlt
          by_cases h0 : L[k] < 0
          · generalize L[k] = x at *
            go_wp2_with fail; (with_reducible refine (awake_any _).mono ?_); rintro e wa ⟨rfl, hba⟩
            go_wp2
            go_ret
            exact ⟨rfl, bnext hbr hba⟩
          · have Hall2 : Hid (∀ (j : Nat) (hj : j < L.length), j < k + 1 → 0 ≤ L[j]) := Lib.hid fun j hj hjk => by
              by_cases e : j = k
              · subst e; omega
              · exact Hall.out j hj (by omega)
            have Hsn := Lib.hid (nums_snoc L k hlt)
            obtain ⟨n, hn⟩ := Int.eq_ofNat_of_zero_le (Int.not_lt.1 h0)
            rw [hn] at d0 hi Hsn
            rw [Int.toNat_natCast] at Hsn
            have hn63 : n < 9223372036854775808 := by omega
            have h9 := num_len9 hn63
            have hwn := wnumber Hw.out n hn63 (by omega) hz
            have Hwn := Lib.hid hwn
            clear hn h0 lo hwn
            generalize nums (L.take k) = q at *
            go_wp2_with fail; (with_reducible refine (Hwn.out).mono ?_); rintro e w1 ⟨rfl, v1, hw1, hc1, hl1⟩
            have B1 := hbr.trans (hc1.below (fun q hq => Hw.out.ge (Nat.le_refl _) q hq) hz)
            have Hw1 := Lib.hid hw1
            clear hw1 hc1 hl1
            go_wp2_with fail; (with_reducible refine (size_any n _ hn63).mono ?_); rintro e w2 ⟨rfl, hw2⟩
            subst hw2
            go_wp2
            go_roundw
            case rel => exact ⟨k + 1, v1, by omega, by go_num, by rw [Hsn.out, List.length_append]; go_num, by rw [Hsn.out]; exact Hw1.out, Hall2.out, B1⟩
            case measure => simp [intOf]; omega
        · have hkl : k = L.length := by omega
          subst hkl
          have Htk : Hid (L.take L.length = L) := Lib.hid (List.take_of_length_le (Nat.le_refl _))
          rw [Htk.out] at hnl
          have hw := Hw.out
          rw [Htk.out] at hw ⊢
          have hby := wbytes hw (by omega)
          have Hby := Lib.hid hby
          clear hby
          have Hw2 := Lib.hid hw
          clear hw
          go_wp2_with fail; (with_reducible refine (Hby.out).mono ?_); rintro e w1 ⟨v1, rfl, ho1, ⟨g, rfl⟩, hb1⟩
          have Ho1 := Lib.hid ho1
          have B1 := bnext hbr hb1
          have Hw3 := Lib.hid (Hw2.out.below hb1)
          have hr1 := wraw Hw3.out (HR.out.below B1) (by omega) (Nat.le_trans hz hb1.size)
          have Hr1 := Lib.hid hr1
          clear ho1 hr1
          go_wp2_with fail; (with_reducible refine (Hr1.out).mono ?_); rintro e w2 ⟨rfl, v2, hw2, hc2, hl2⟩
          have B2 := B1.trans (hc2.below (fun q hq => Hw3.out.ge (Nat.le_refl _) q hq) (Nat.le_trans hz hb1.size))
          have ho2 := Ho1.out.chg hc2 (fun q hq hf => by
            have h1 := Hw3.out.lt q hf
            have h2 := (Ho1.out.lt hq).1
            have h3 := Hw2.out.lt
            rcases hf with hf | hf
            · have := h3 q (.inl hf); omega
            · have := h3 q (.inr hf); omega)
          have Ho2 := Lib.hid ho2
          have hby2 := wbytes hw2 (by simp only [List.length_append]; omega)
          obtain ⟨A, hA⟩ : ∃ A, nums L ++ R = A := ⟨_, rfl⟩
          have hAl : A.length ≤ 10000 := by rw [← hA, List.length_append]; omega
          rw [hA] at hby2
          have HA := Lib.hid hA
          clear hA
          have Hby2 := Lib.hid hby2
          clear hw2 hc2 hl2 hby2 ho2
          go_wp2_with fail; (with_reducible refine (Hby2.out).mono ?_); rintro e w3 ⟨v3, rfl, ho3, ⟨g3, rfl⟩, hb3⟩
          have B3 := bnext B2 hb3
          have Ho3 := Lib.hid ho3
          have hcp := refcopy (Ho2.out.reads.below hb3) (by omega)
          have Hcp := Lib.hid hcp
          clear ho3 hcp
          go_wp2_with fail; (with_reducible refine (Hcp.out).mono ?_); rintro e w4 ⟨v4, rfl, ho4, hb4⟩
          have B4 := bnext B3 hb4
          have Ho4 := Lib.hid ho4
          have Hr3 := Lib.hid (Ho3.out.reads.below hb4)
          have HR4 := Lib.hid (HR.out.below B4)
          clear ho4
          go_wp2_with (at_builtin; go_loud (refine wpList_appr rfl (.tmp 65) (.tmp 66) rfl w3.heap.size v4 (nums L) rfl Ho4.out (.slice ar R.length cr) R rfl HR4.out ?_ hb4.size ?_); omega; intro v5 w5 ho5 hold5 ha5)
          have B5 := B4.trans ((Ho4.out.below ha5 hb4.size).mono B3.size)
          have hr5 := Hr3.out.chg (Chg.of_app ha5) (fun _ q hq hf => by
            have h1 := (Ho3.out.lt hq).2
            have h2 := (Ho4.out.lt hf).1
            omega)
          have hr6 := ho5.reads
          rw [HA.out] at hr6
          have Hr5 := Lib.hid hr5
          have Hr6 := Lib.hid hr6
          clear hr5 hr6 ho5 hold5 ha5
          refine (same_b Hr6.out Hr5.out true (by rw [beq_iff_eq])).mono ?_
          rintro e w6 ⟨rfl, hb6⟩
          have B6 := bnext B5 hb6
          have hnr := newreader_any (Hr5.out.below hb6) (by omega)
          have Hnr := Lib.hid hnr
          clear hnr
          go_wp2_with fail; (with_reducible refine (Hnr.out).mono ?_); rintro e w7 ⟨p, go, rfl, hp, hgo, hrd, hb7⟩
          have B7 := bnext B6 hb7
          have Hrd := Lib.hid hrd
          clear hrd
          have hpw := Nat.le_trans B6.size hp
          go_wp2
          go_loopw [76] (fun i wx => ∃ (k : Nat), k ≤ L.length ∧ i = .int .i64 k ∧ RD wx p go (nums (L.drop k) ++ R) false ∧ Below w.heap.size w wx) (fun i _ => L.length - (intOf i).toNat)
          case atStart => exact ⟨0, Nat.zero_le _, rfl, by rw [List.drop_zero, HA.out]; exact Hrd.out, B7⟩
          case round =>
            obtain ⟨k, hk2, rfl, hrd, hbx⟩ := hrel
            have Hrdx := Lib.hid hrd
            clear hrd
            by_cases hlt2 : k < L.length
            · obtain ⟨b, off, rfl, d0, lo, hi⟩ := HL.out.cell hbx k hlt2
              have h0 := Hall.out k hlt2 hlt2
              have Hd := Lib.hid (nums_drop L k hlt2)
              obtain ⟨n, hn⟩ := Int.eq_ofNat_of_zero_le h0
              rw [hn] at d0 hi Hd
              rw [Int.toNat_natCast] at Hd
              have hn63 : n < 9223372036854775808 := by omega
              have hN := rnumber Hrdx.out
              rw [Hd.out, List.append_assoc, rdNum9_num hn63] at hN
              have HN := Lib.hid hN
              clear hN hn h0 lo
              go_wp2_with fail; (with_reducible refine (HN.out).mono ?_); rintro e w8 ⟨hg8, rfl, hrd8⟩
              have B8 := hbx.grown hg8 hbx.size (fun q hq => by cases hq; exact hpw)
              have Hrd8 := Lib.hid hrd8
              clear hrd8 hg8
              go_wp2
              go_roundw
              case rel => exact ⟨k + 1, by omega, by go_num, Hrd8.out, B8⟩
              case measure => simp [intOf]; omega
            · have hkl : k = L.length := by omega
              subst hkl
              have hdr : nums (L.drop L.length) ++ R = R := by rw [List.drop_length]; rfl
              have hrdz := Hrdx.out
              rw [hdr] at hrdz
              have Hrdz := Lib.hid hrdz
              clear hrdz hdr
              go_wp2_with fail; (with_reducible refine (bad_any Hrdz.out).mono ?_); rintro e w8 ⟨rfl, hw8⟩
              subst hw8
              go_wp2_with fail; (with_reducible refine (left_any Hrdz.out).mono ?_); rintro e w8 ⟨rfl, hw8⟩
              subst hw8
              have hrw := raw_ok Hrdz.out R.length (Nat.le_refl _)
              have Hrw := Lib.hid hrw
              clear hrw
              go_wp2_with fail; (with_reducible refine (Hrw.out).mono ?_); rintro e w9 ⟨v9, rfl, hrb9, hrd9, hg9, ho9, ⟨a9, c9, rfl, hm9⟩⟩
              rw [List.take_of_length_le (Nat.le_refl _)] at hrb9
              rw [List.drop_of_length_le (Nat.le_refl _)] at hrd9
              have B9 := hbx.grown hg9 hbx.size (fun q hq => by cases hq; exact hpw)
              have Hrb9 := Lib.hid hrb9
              have Hrd9 := Lib.hid hrd9
              clear hrb9 hrd9 hg9 ho9
              go_wp2_with fail; (with_reducible refine (same_b Hrb9.out (HR.out.below B9) true (by rw [beq_iff_eq])).mono ?_); rintro e wa ⟨rfl, hba⟩
              have Ba := bnext B9 hba
              go_wp2_with fail; (with_reducible refine (done_any (Hrd9.out.below hba) 0 (by simp)).mono ?_); rintro e wb ⟨rfl, hwb⟩
              subst hwb
              go_wp2_with fail; (with_reducible refine (awake_any _).mono ?_); rintro e wc ⟨rfl, hbc⟩
              go_wp2
              go_ret
              exact ⟨rfl, bnext Ba hbc⟩
    · go_enter Try.func4, Try.ntmps4
      go_wp2_with fail; (with_reducible refine (awake_any _).mono ?_); rintro e wa ⟨rfl, hba⟩
      go_wp2
      go_ret
      exact ⟨rfl, hba⟩
  · go_enter Try.func4, Try.ntmps4
    go_wp2_with fail; (with_reducible refine (awake_any _).mono ?_); rintro e wa ⟨rfl, hba⟩
    go_wp2
    go_ret
    exact ⟨rfl, hba⟩
end Go.Proofs.Ytpdkekpdahefgaa
