/- Chapter 11: MemUsers: its walk. -/
import Derived.Test.YtcbkjhbneigkaaaYMf
import Derived.Test.YtcbkjhbneigkaaaYMx
namespace Go.Proofs.Ytcbkjhbneigkaaa
open Go.RowKit
set_option linter.unusedVariables false
set_option linter.unusedSimpArgs false

theorem mfill0 {w : World} {a : Option Addr} {c : Nat} {l : List BatD} (h : BTs w a l) (hl : l.length ≤ 30) :
    Calls Try.prog 13 #[.slice a l.length c, .slice none 0 0] w (FillOut w (fillN l l.length).1 (fillN l l.length).2) := mfill (c := c) (da := none) (D := []) (dc := 0) h (nil_ints _) hl (by decide)
theorem mrow_str {w : World} {B : Nat} {ao : Option Addr} {n c : Nat} {l : List ByteArray} (h : w.ownsRow B 9 1 (.slice ao n c) n (svs l)) (j : Nat) (hj : j < l.length) (hn : n = l.length) : ∃ g, ao = some ⟨g, 0, none⟩ ∧ w.cell? ⟨g, j, none⟩ = some (.string l[j]) := by
  subst hn
  obtain ⟨ao', c', e, _, _, h3⟩ := row_shape h
  cases e
  obtain ⟨g, rfl, _⟩ := h3 (by omega)
  refine ⟨g, rfl, ?_⟩
  rw [World.ownsRow.cellAt h _ (by omega)]
  unfold svs
  rw [List.getElem?_map, List.getElem?_eq_getElem hj]; rfl
theorem musers_size {M : List ME} {last : Int} (h : MInv M last) {at' : Int} : ∀ u ∈ musers at' M, u.size ≤ maxLen := fun u hu => by
  obtain ⟨i, hi, _, rfl⟩ := (musersN_mem M.length).1 hu
  rw [uAt_in hi]; exact (h.ok _ (List.getElem_mem hi)).user
/-- is it among the first? -/
def amongN (U : List ByteArray) (u : ByteArray) : Nat → Bool
  | 0 => false
  | n + 1 => amongN U u n || (if h : n < U.length then decide (U[n] = u) else false)
theorem amongN_iff (U : List ByteArray) (u : ByteArray) : ∀ n, n ≤ U.length → (amongN U u n = true ↔ ∃ j, ∃ h : j < U.length, j < n ∧ U[j] = u)
  | 0, _ => by simp [amongN]
  | n + 1, hn => by
    have ih := amongN_iff U u n (by omega)
    unfold amongN
    rw [Bool.or_eq_true, ih, dif_pos (show n < U.length by omega), decide_eq_true_eq]
    constructor
    · rintro (⟨j, h, h1, h2⟩ | h)
      · exact ⟨j, h, by omega, h2⟩
      · exact ⟨n, by omega, by omega, h⟩
    · rintro ⟨j, h, h1, h2⟩
      rcases Nat.lt_or_ge j n with h3 | h3
      · exact .inl ⟨j, h, h3, h2⟩
      · have : j = n := by omega
        subst this; exact .inr h2
theorem among_all {M : List ME} {at' : Int} {u : ByteArray} : amongN (musers at' M) u (musers at' M).length = (if h : mget u at' M < M.length then decide (M[mget u at' M].k = 1) else false) := by
  rw [Bool.eq_iff_iff, amongN_iff _ _ _ (Nat.le_refl _)]
  have h1 : (∃ j, ∃ h : j < (musers at' M).length, j < (musers at' M).length ∧ (musers at' M)[j] = u) ↔ u ∈ musers at' M := by
    constructor
    · rintro ⟨j, h, _, rfl⟩; exact List.getElem_mem h
    · intro hm
      obtain ⟨j, hj, e⟩ := List.getElem_of_mem hm
      exact ⟨j, hj, hj, e⟩
  rw [h1, musers_has]
  constructor
  · rintro ⟨h, hk⟩
    rw [dif_pos h, decide_eq_true hk]
  · intro h
    split at h
    · rename_i hc
      exact ⟨hc, of_decide_eq_true h⟩
    · cases h
theorem got_agg (M : List ME) (u : ByteArray) (at' : Int) : ∃ vu vs vk vv b, mgot M u at' = .agg #[.string vu, .int .i64 vs, .int .i64 vk, .string vv] ∧ mgotB M u at' = b ∧ (if h : mget u at' M < M.length then decide (M[mget u at' M].k = 1) else false) = (b && (vk == 1)) := by
  by_cases h : mget u at' M < M.length
  · obtain ⟨h1, h2⟩ := mgot_in h rfl
    refine ⟨_, _, _, _, true, h1, h2, ?_⟩
    rw [dif_pos h, Bool.true_and, Bool.eq_iff_iff, decide_eq_true_eq, beq_iff_eq]
  · have hle := mget_le u at' M
    obtain ⟨h1, h2⟩ := mgot_no (M := M) (u := u) (at' := at') (by omega)
    exact ⟨_, _, _, _, false, h1, h2, by rw [dif_neg h, Bool.false_and]⟩
set_option maxRecDepth 100000 in
set_option maxHeartbeats 4000000 in
theorem users11 {w : World} {a : Option Addr} {c : Nat} {l : List BatD} {at' : Int} (h : BTs w a l) (hl : l.length ≤ maxLen) (ha : -9223372036854775808 ≤ at') (ha2 : at' ≤ 9223372036854775807) :
    Calls Try.prog 7 #[.slice a l.length c, .int .i64 at'] w fun e w' => e = .returned (.bool true) ∧ Below w.heap.size w w' := by
  have H := Lib.hid h
  have HSm := Lib.hid (msmall (c := c) h hl)
  clear h
  cases hs : small11 l with
  | false =>
    rw [hs] at HSm
    clear hs
    go_enter Try.func7, Try.ntmps7
    go_wp2_with fail; (with_reducible refine (HSm.out).mono ?_); rintro e w1 ⟨rfl, hb1⟩
    go_wp2_with fail; (with_reducible refine (awake11 _).mono ?_); rintro e w2 ⟨rfl, hb2⟩
    go_wp2
    go_ret
    exact ⟨rfl, bnext hb1 hb2⟩
  | true =>
    rw [hs] at HSm
    obtain ⟨hs30, _⟩ := small11_all hs
    clear hs
    go_enter Try.func7, Try.ntmps7
    go_wp2_with fail; (with_reducible refine (HSm.out).mono ?_); rintro e w1 ⟨rfl, hb1⟩
    have HFa := Lib.hid (mfill0 (c := c) (H.out.below hb1) hs30)
    go_wp2_with fail; (with_reducible refine (HFa.out).mono ?_); rintro e w2 ⟨t, p, F, v, rfl, hT, hR, hb2⟩
    have HB2 := Lib.hid (bnext hb1 hb2)
    have hln := fillN_len l l.length (Nat.le_refl _)
    obtain ⟨av, cv, rfl⟩ := hR.shape
    have HT := Lib.hid hT
    have HR := Lib.hid hR
    have HIv := Lib.hid hT.inv
    have HUs := Lib.hid (hT.users (by omega) at')
    generalize (fillN l l.length).1 = M at *
    generalize (fillN l l.length).2 = last at *
    have hul : (musers at' M).length ≤ M.length := musersN_le at' M M.length
    have HRi : Hid (∀ i j (hi : i < (musers at' M).length) (hj : j < (musers at' M).length), i < j → Lib.compareBytes ((musers at' M)[i]).data.toList ((musers at' M)[j]).data.toList < 0) := Lib.hid (musersN_rise HIv.out at' M.length (Nat.le_refl _))
    have HSz := Lib.hid (musers_size HIv.out (at' := at'))
    have HAm : Hid (∀ u, amongN (musers at' M) u (musers at' M).length = (if h : mget u at' M < M.length then decide (M[mget u at' M].k = 1) else false)) := Lib.hid fun u => among_all
    generalize musers at' M = U at *
    clear hT hR hb2 hb1
    go_wp2_with fail; (with_reducible refine (HUs.out).mono ?_); rintro e w3 ⟨y, rfl, ho3, hb3⟩
    have HB3 := Lib.hid (bnext HB2.out hb3)
    have HT3 := Lib.hid (HT.out.below hb3)
    have HR3 := Lib.hid (HR.out.below hb3)
    obtain ⟨ay, cy, rfl, _⟩ := row_shape ho3
    have HY := Lib.hid ho3
    clear ho3 hb3 HT HR HUs HFa HSm
    go_wp2
    go_loopw [35] (fun i wr => ∃ k : Nat, k ≤ U.length ∧ i = .int .i64 k ∧ Below w3.heap.size w3 wr) (fun i _ => U.length - (intOf i).toNat)
    case atStart => exact ⟨0, Nat.zero_le _, rfl, Below.refl _ _⟩
    case round =>
      obtain ⟨k, hk, rfl, hbr⟩ := hrel
      by_cases hlt : k < U.length
      · obtain ⟨g, rfl, d0⟩ := mrow_str (row_past HY.out hbr (Nat.le_refl _)) k hlt rfl
        have HBr := Lib.hid hbr
        by_cases hk0 : k = 0
        · subst hk0
          generalize U[0] = x at *
          go_wp2
          go_roundw
          case rel => exact ⟨1, by omega, by go_num, HBr.out⟩
          case measure => simp [intOf]; omega
        · obtain ⟨m, rfl⟩ : ∃ m, k = m + 1 := ⟨k - 1, by omega⟩
          obtain ⟨g', e', d1⟩ := mrow_str (row_past HY.out hbr (Nat.le_refl _)) m (by omega) rfl
          cases e'
          have hri := HRi.out m (m + 1) (by omega) hlt (by omega)
          have h1 := HSz.out _ (List.getElem_mem (show m < U.length by omega))
          have h2 := HSz.out _ (List.getElem_mem hlt)
          generalize U[m + 1] = x at *
          generalize U[m] = y at *
          have HOd := Lib.hid (Order_any y x wr h1 h2)
          have hng : decide (0 ≤ Lib.compareBytes y.data.toList x.data.toList) = false := decide_eq_false (by omega)
          generalize Lib.compareBytes y.data.toList x.data.toList = cmp at *
          clear hri h1 h2 hbr
          go_wp2_with fail; (with_reducible refine (HOd.out).mono ?_); rintro e w4 ⟨rfl, hb4⟩
          go_wp2
          go_roundw
          case rel => exact ⟨m + 1 + 1, by omega, by go_num, bnext HBr.out hb4⟩
          case measure => simp [intOf]; omega
      · have HBr := Lib.hid hbr
        have HY4 := Lib.hid (row_past HY.out hbr (Nat.le_refl _))
        have HT4 := Lib.hid (HT3.out.below hbr)
        have HR4 := Lib.hid (HR3.out.below hbr)
        have HB4 := Lib.hid (bnext HB3.out hbr)
        clear hbr
        go_wp2
        go_loopw [55] (fun i wx => ∃ k : Nat, k ≤ M.length ∧ i = .int .i64 k ∧ Below wr.heap.size wr wx) (fun i _ => M.length - (intOf i).toNat)
        case atStart => exact ⟨0, Nat.zero_le _, rfl, Below.refl _ _⟩
        case round =>
          obtain ⟨k, hk, rfl, hbr⟩ := hrel
          by_cases hlt : k < M.length
          · obtain ⟨g, rfl, d0, d1, d2, d3⟩ := HR4.out.cells hbr k hlt
            have HBr := Lib.hid hbr
            have HBw := Lib.hid (bnext HB4.out hbr)
            have hEu := (HIv.out.ok _ (List.getElem_mem hlt)).user
            generalize M[k] = E at *
            obtain ⟨Eu, Es, Ek, Ev⟩ := E
            simp only at d0 d1 d2 d3 hEu
            go_upto_region 16 with (fail)
            refine gen_wp (fun w' => Below wr.heap.size wr w' ∧ w'.heap[wr.heap.size]? = some (.cells #[.string Eu, .int .i64 Es, .int .i64 Ek, .string Ev] 49 (0, 0))) ⟨(Below.refl _ wr).alloc (Nat.le_refl _) _, heap_alloc_new wr _⟩ ?_
            rintro w5 ⟨hb5, b5⟩
            obtain ⟨e0, _⟩ := mcell_four b5
            have hbx5 := hbr.trans (hb5.mono hbr.size)
            have HGt := Lib.hid ((HT4.out.below hbx5).get (by omega) Eu at' hEu ha ha2)
            have HBx5 := Lib.hid hbx5
            obtain ⟨vu, vs, vk, vv, bis, hg1, hg2, hg3⟩ := got_agg M Eu at'
            have ham := HAm.out Eu
            rw [hg3] at ham
            rw [hg1, hg2] at HGt
            have HAmE := Lib.hid ham
            clear hbr hb5 hg1 hg2 hg3 ham d0 d1 d2 d3 b5 hbx5
            generalize wr.heap.size = eq at *
            go_wp2_with fail; (with_reducible refine (HGt.out).mono ?_); rintro e w6 ⟨rfl, hb6⟩
            have e0 := cell_next e0 w6 hb6
            have HBx6 := Lib.hid (HBx5.out.trans (hb6.mono HBx5.out.size))
            go_upto_region 17 with (fail)
            refine gen_wp (fun w' => Below w6.heap.size w6 w' ∧ w'.heap[w6.heap.size]? = some (.cells #[.string vu, .int .i64 vs, .int .i64 vk, .string vv] 36 (0, 0))) ⟨(Below.refl _ w6).alloc (Nat.le_refl _) _, heap_alloc_new w6 _⟩ ?_
            rintro w7 ⟨hb7, b7⟩
            obtain ⟨_, _, q2, _⟩ := mcell_four b7
            have e0 := cell_next e0 w7 hb7
            have HBx7 := Lib.hid (HBx6.out.trans (hb7.mono HBx6.out.size))
            have HY7 := Lib.hid (row_past HY4.out HBx7.out (Nat.le_refl _))
            clear b7 hb7 hb6
            generalize w6.heap.size = ent at *
            go_wp2
            go_loopw [70, 15] (fun i hs wx => ∃ j : Nat, j ≤ U.length ∧ i = .int .i64 j ∧ hs = .bool (amongN U Eu j) ∧ Below w7.heap.size w7 wx) (fun i _ _ => U.length - (intOf i).toNat)
            case atStart => exact ⟨0, Nat.zero_le _, rfl, rfl, Below.refl _ _⟩
            case round =>
              obtain ⟨j, hj, rfl, rfl, hbx⟩ := hrel
              have e0 := cell_next e0 wr hbx
              by_cases hlj : j < U.length
              · obtain ⟨g2, rfl, f0⟩ := mrow_str (row_past HY7.out hbx (Nat.le_refl _)) j hlj rfl
                have hst : amongN U Eu (j + 1) = (amongN U Eu j || decide (U[j] = Eu)) := by
                  rw [amongN, dif_pos hlj]
                have HSt := Lib.hid hst
                have HBj := Lib.hid hbx
                clear hst hbx
                cases hb : amongN U Eu j with
                | true =>
                  have Hn : Hid (amongN U Eu (j + 1) = true) := Lib.hid (by rw [HSt.out, hb]; rfl)
                  generalize U[j] = x at *
                  clear hb
                  go_wp2
                  go_roundw
                  case rel => exact ⟨j + 1, by omega, by go_num, by rw [Hn.out], HBj.out⟩
                  case measure => simp [intOf]; omega
                | false =>
                  by_cases hx : U[j] = Eu
                  · have hq := str_eq hx
                    have Hn : Hid (amongN U Eu (j + 1) = true) := Lib.hid (by rw [HSt.out, hb, decide_eq_true hx]; rfl)
                    generalize U[j] = x at *
                    clear hb hx
                    go_wp2
                    go_roundw
                    case rel => exact ⟨j + 1, by omega, by go_num, by rw [Hn.out], HBj.out⟩
                    case measure => simp [intOf]; omega
                  · have hq := str_ne hx
                    have Hn : Hid (amongN U Eu (j + 1) = false) := Lib.hid (by rw [HSt.out, hb, decide_eq_false hx]; rfl)
                    generalize U[j] = x at *
                    clear hb hx
                    go_wp2
                    go_roundw
                    case rel => exact ⟨j + 1, by omega, by go_num, by rw [Hn.out], HBj.out⟩
                    case measure => simp [intOf]; omega
              · obtain rfl : j = U.length := by omega
                have q2 := cell_next q2 wr hbx
                have HBj := Lib.hid (HBx7.out.trans (hbx.mono HBx7.out.size))
                rw [HAmE.out]
                clear hbx
                cases bis with
                | false =>
                  go_wp2
                  go_roundw
                  case rel => exact ⟨k + 1, by omega, by go_num, HBj.out⟩
                  case measure => simp [intOf]; omega
                | true =>
                  cases hv : (vk == 1) with
                  | true =>
                    go_wp2
                    go_roundw
                    case rel => exact ⟨k + 1, by omega, by go_num, HBj.out⟩
                    case measure => simp [intOf]; omega
                  | false =>
                    go_wp2
                    go_roundw
                    case rel => exact ⟨k + 1, by omega, by go_num, HBj.out⟩
                    case measure => simp [intOf]; omega
          · have HLn := Lib.hid ((HT4.out.below hbr).len (by omega))
            have HBr := Lib.hid (bnext HB4.out hbr)
            have hule : decide ((U.length : Int) ≤ (M.length : Int)) = true := decide_eq_true (by omega)
            clear hbr
            go_wp2_with fail; (with_reducible refine (HLn.out).mono ?_); rintro e w6 ⟨rfl, hb6⟩
            have HB6 := Lib.hid (bnext HBr.out hb6)
            clear hb6
            go_wp2_with fail; (with_reducible refine (awake11 _).mono ?_); rintro e w7 ⟨rfl, hb7⟩
            go_wp2
            go_ret
            exact ⟨rfl, bnext HB6.out hb7⟩
end Go.Proofs.Ytcbkjhbneigkaaa
