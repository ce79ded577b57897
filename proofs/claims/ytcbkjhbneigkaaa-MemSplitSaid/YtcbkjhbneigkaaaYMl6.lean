/- Chapter 11: MemSplit: its walk. -/
import Derived.Test.YtcbkjhbneigkaaaYMl5
namespace Go.Proofs.Ytcbkjhbneigkaaa
open Go.RowKit
set_option linter.unusedVariables false
set_option linter.unusedSimpArgs false

/-- a slice of batches, cut: its head and its rest -/
theorem BTs.none_nil {w : World} {l : List BatD} (h : BTs w none l) : l = [] := by
  cases l with
  | nil => rfl
  | cons x l => obtain ⟨b, off, e, _⟩ := h.1 (by simp); cases e
theorem TB.apply0 {w : World} {B t p : Nat} {F : Nat → Prop} {M : List ME} {last : Int} (h : TB w B t p F M last) {a : Option Addr} {c : Nat} {l : List OpD} {seq : Int}
    (hO : ∀ w', Chg (GT t F) w w' → OPs w' a l) (hm : l.length ≤ maxLen) (hr : batRight seq l = true) (hs : last < seq) (hl : M.length + l.length ≤ 99999) :
    Calls Try.prog 10 #[.pointer (some ⟨t, 0, none⟩), .agg #[.int .i64 seq, .slice a l.length c], .slice none 0 0] w (ApplyOut w B t p F M l seq) :=
  TB.apply h (D := []) (da := none) (dc := 0) hO (fun w' _ => nil_ints w') hm (by decide) hr hs hl
set_option maxRecDepth 100000 in
set_option maxHeartbeats 8000000 in
theorem split11 {w : World} {x : Addr} {c : Nat} {l : List BatD} {cut at' : Int} (h : BTs w (some x) l) (hl : l.length ≤ maxLen) (hlc : l.length ≤ c) (hcm : c ≤ maxLen) (hc1 : -9223372036854775808 ≤ cut) (hc2 : cut ≤ 9223372036854775807) (ha : -9223372036854775808 ≤ at') (ha2 : at' ≤ 9223372036854775807) :
    Calls Try.prog 4 #[.slice (some x) l.length c, .int .i64 cut, .int .i64 at'] w fun e w' => e = .returned (.bool true) ∧ Below w.heap.size w w' := by
  have H := Lib.hid h
  have HSm := Lib.hid (msmall (c := c) h hl)
  unfold maxLen at hl hcm
  clear h
  cases hs : small11 l with
  | false =>
    rw [hs] at HSm
    clear hs
    go_enter Try.func4, Try.ntmps4
    go_wp2_with fail; (with_reducible refine (HSm.out).mono ?_); rintro e w1 ⟨rfl, hb1⟩
    go_wp2_with fail; (with_reducible refine (awake11 _).mono ?_); rintro e w2 ⟨rfl, hb2⟩
    go_wp2
    go_ret
    exact ⟨rfl, bnext hb1 hb2⟩
  | true =>
    rw [hs] at HSm
    obtain ⟨hs30, _⟩ := small11_all hs
    clear hs
    by_cases hd : 0 ≤ cut ∧ cut ≤ (l.length : Int)
    case neg =>
      have hd2 : cut < 0 ∨ (0 ≤ cut ∧ (l.length : Int) < cut) := by omega
      clear hd
      rcases hd2 with hd | ⟨hd, hd2⟩
      all_goals
        go_enter Try.func4, Try.ntmps4
        go_wp2_with fail; (with_reducible refine (HSm.out).mono ?_); rintro e w1 ⟨rfl, hb1⟩
        go_wp2_with fail; (with_reducible refine (awake11 _).mono ?_); rintro e w2 ⟨rfl, hb2⟩
        go_wp2
        go_ret
        exact ⟨rfl, bnext hb1 hb2⟩
    obtain ⟨hd, hd2⟩ := hd
    obtain ⟨n, rfl⟩ := Int.eq_ofNat_of_zero_le hd
    have hnl : n ≤ l.length := by omega
    clear hd hd2 hc1 hc2
    have htl : (l.take n).length = n := by rw [List.length_take]; omega
    have HF2 : Hid (∀ W, Below w.heap.size w W → Calls Try.prog 13 #[.slice (some x) n c, .slice none 0 0] W (FillOut W (fillN l n).1 (fillN l n).2)) := Lib.hid fun W hb => by
      have h1 := mfill0 (c := c) ((H.out.below hb).cut n) (by omega)
      rw [htl, fillN_take l n n (Nat.le_refl _)] at h1
      exact h1
    clear htl
    have hnc : n < c ∨ n = c := by omega
    rcases hnc with hnc | rfl
    · go_enter Try.func4, Try.ntmps4
      go_wp2_with fail; (with_reducible refine (HSm.out).mono ?_); rintro e w1 ⟨rfl, hb1⟩
      have HFa := Lib.hid (mfill0 (c := c) (H.out.below hb1) hs30)
      go_wp2_with fail; (with_reducible refine (HFa.out).mono ?_); rintro e w2 ⟨t, p, F, v, rfl, hT, hR, hb2⟩
      have HB2 := Lib.hid (bnext hb1 hb2)
      go_wp2_with fail; (with_reducible refine (HF2.out _ HB2.out).mono ?_); rintro e w3 ⟨t3, p3, F3, v3, rfl, hT3, hR3, hb3⟩
      have HB3 := Lib.hid (bnext HB2.out hb3)
      have hTA := hT.below hb3
      have hRA := hR.below hb3
      obtain ⟨av, cv, rfl⟩ := hRA.shape
      obtain ⟨R, hRd⟩ : ∃ R, l.drop n = R := ⟨_, rfl⟩
      have hpt := parted_all hnl (O := (fillN l n).1) (lo := (fillN l n).2) rfl hT3.inv.low hT3.inv.top
      rw [hRd] at hpt
      have hRl : R.length = l.length - n := by rw [← hRd, List.length_drop]
      have hpe := hpt R.length (Nat.le_refl _)
      rw [show n + R.length = l.length by omega] at hpe
      have HPe := Lib.hid hpe
      have hAl := fillN_len l l.length (Nat.le_refl _)
      have hOl := fillN_len l n hnl
      have hYl := youngN_len R (fillN l n).2
      have HYl := Lib.hid hYl
      have HTA := Lib.hid hTA
      have HRA := Lib.hid hRA
      have HTO := Lib.hid hT3
      have HBt : Hid (BTs w (some (x.add (n * 2))) R) := Lib.hid (by
        rw [← hRd]; exact H.out.rest n)
      have hR30 : R.length ≤ 30 := by omega
      clear hpt hpe hRd hT hR hT3 hR3 hb1 hb2 hb3 hTA hRA hYl HFa HSm
      generalize (fillN l l.length).1 = A at *
      generalize (fillN l l.length).2 = lastA at *
      generalize (fillN l n).1 = O at *
      generalize hlo : (fillN l n).2 = lo at *
      go_wp2_with fail; (with_reducible refine (TB.new w3).mono ?_); rintro e w4 ⟨t4, p4, F4, rfl, hT4, hb4⟩
      have HT4 := Lib.hid hT4
      have HB4 := Lib.hid hb4
      clear hT4 hb4 hlo
      go_upto_region 9 with (fail)
      generalize x.add (n * 2) = y at *
      generalize l.length - n = m at *
      generalize c - n = sc at *
      go_wp2
      go_loopw [62] (fun i wr => ∃ (k : Nat) (F' : Nat → Prop), k ≤ R.length ∧ i = .int .i64 k ∧ TB wr w3.heap.size t4 p4 F' (youngN R lo k).1 (youngN R lo k).2 ∧ Below w3.heap.size w3 wr) (fun i _ => R.length - (intOf i).toNat)
      case atStart => exact ⟨0, F4, Nat.zero_le _, rfl, HT4.out, HB4.out⟩
      case round =>
        clear HT4 HB4
        obtain ⟨k, F', hk, rfl, hT, hbr⟩ := hrel
        have HT := Lib.hid hT
        have HBr := Lib.hid hbr
        clear hT
        by_cases hlt : k < R.length
        · have hdone := hlt
          obtain ⟨bb, off, hy, d0, d1, ho, hm⟩ := HBt.out.cells (HB3.out.trans (HBr.out.mono HB3.out.size)) k hlt
          cases hy
          have hstep := youngN_succ (lo := lo) hlt
          have hyl := HYl.out k hk
          have HO : Hid (∀ W, Below w.heap.size w W → OPs W R[k].a R[k].L) := Lib.hid fun W hb => (HBt.out.2 _ (List.getElem_mem hlt)).1.below hb
          generalize hS0 : youngN R lo (k + 1) = S1 at *
          have HS0 := Lib.hid hS0
          generalize youngN R lo k = S at *
          generalize R[k] = xb at *
          obtain ⟨M, last⟩ := S
          obtain ⟨xq, xa, xL, xc⟩ := xb
          have HS := Lib.hid hstep
          simp only at d0 d1 hm HS HO ho hyl HT
          clear hstep ho hbr hS0
          go_upto_region 11 with (fail)
          refine gen_wp (fun w' => Below wr.heap.size wr w' ∧ w'.heap[wr.heap.size]? = some (.cells #[.int .i64 xq, .slice xa xL.length xc] 32 (0, 0))) ⟨(Below.refl _ wr).alloc (Nat.le_refl _) _, heap_alloc_new wr _⟩ ?_
          rintro w5 ⟨hb5, b5⟩
          obtain ⟨e0, e1, _⟩ := cell_two b5
          have s0 := cell_next e0
          have s1 := cell_next e1
          have HT5 := Lib.hid (HT.out.below hb5)
          have HB5 := Lib.hid (HBr.out.trans (hb5.mono HBr.out.size))
          have HBw := Lib.hid (HB3.out.trans (HB5.out.mono HB3.out.size))
          clear hb5 b5 HT HBr d0 d1
          generalize wr.heap.size = bq at *
          have Bg := bnext_grow (Below.refl w5.heap.size w5)
          cases hr : batRight xq xL with
          | false =>
            have HCk := Lib.hid (fun W (hb : Below w5.heap.size w5 W) => batcheck (w := W) (c := xc) (HO.out _ (HBw.out.trans (hb.mono HBw.out.size))) hm xq 100 (by rw [hr, if_neg (by decide)]))
            have HS1 : Hid (S1 = (M, last)) := Lib.hid (by rw [HS.out]; exact applyY_bad hr)
            clear hr
            refine wp_region_quiet_below (by kernel_rfl) (by kernel_rfl) ?_; (repeat (go_big_quiet_step ((first | (go_at_call 14; (with_reducible refine Calls.regrown_of (HCk.out _ (Bg _ _)))) | fail)))); refine wpQuiet_nil ?_; rintro _ ⟨pq, rfl⟩
            go_wp2
            go_roundw
            case rel => exact ⟨k + 1, F', by omega, by go_num, by rw [HS0.out, HS1.out]; exact HT5.out.below (Bg _ _), HB5.out.trans ((Bg _ _).mono HB5.out.size)⟩
            case measure => simp [intOf]; omega
          | true =>
            have HCk := Lib.hid (fun W (hb : Below w5.heap.size w5 W) => batcheck (w := W) (c := xc) (HO.out _ (HBw.out.trans (hb.mono HBw.out.size))) hm xq 0 (by rw [hr, if_pos rfl]))
            have HLy := Lib.hid (fun W (hb : Below w5.heap.size w5 W) => (HT5.out.below hb).last)
            have HLo := Lib.hid (fun W (hb : Below w5.heap.size w5 W) => ((HTO.out.below (HB5.out.trans (hb.mono HB5.out.size))).last))
            have Hr := Lib.hid hr
            have hmx : (last < lo ∧ max last lo = lo) ∨ (lo ≤ last ∧ max last lo = last) := by omega
            clear hr
            rcases hmx with ⟨hml, hmx⟩ | ⟨hml, hmx⟩
            · by_cases hq : lo < xq
              · have HS1 : Hid (S1 = (mbat M xL xq xL.length, xq + xL.length - 1)) := Lib.hid (by rw [HS.out]; exact applyY_yes Hr.out (by simp only; omega))
                have hdq : decide (lo < xq) = true := decide_eq_true hq
                obtain ⟨_, hl1, hl2, hs0, hs1⟩ := batRight_all Hr.out
                refine wp_region_quiet_below (by kernel_rfl) (by kernel_rfl) ?_; (repeat (go_big_quiet_step ((first | (go_at_call 14; (with_reducible refine Calls.regrown_of (HCk.out _ (Bg _ _)))) | (go_at_call 15; (with_reducible refine Calls.regrown_of (HLy.out _ (Bg _ _)))) | (go_at_call 15; (with_reducible refine Calls.regrown_of (HLo.out _ (Bg _ _)))))))); refine wpQuiet_nil ?_; rintro _ ⟨pq, rfl⟩
                go_upto_region 12 with (fail)
                refine gen_wp (fun w' => Below w5.heap.size w5 w') (Bg _ _) ?_
                rintro w6 hb6
                have e0 := s0 _ hb6
                have e1 := s1 _ hb6
                have hT6 := HT5.out.below hb6
                have HB6 := Lib.hid (HB5.out.trans (hb6.mono HB5.out.size))
                have HBw6 := Lib.hid (HBw.out.trans (hb6.mono HBw.out.size))
                have HAp := Lib.hid (TB.apply0 hT6 (a := xa) (c := xc) (fun w' hc => HO.out _ (HBw6.out.trans (hc.below (fun q hq => Nat.le_trans HB3.out.size (hT6.ge q hq).1) HBw6.out.size))) hm Hr.out (show last < xq by omega) (by omega))
                clear hb6 hT6 Bg
                go_wp2_with fail; (with_reducible refine (HAp.out).mono ?_); rintro e w7 ⟨rfl, F7, hT7, hF7, hch7, hb7⟩
                have HT7 := Lib.hid hT7
                have HB7 := Lib.hid (HB6.out.trans hb7)
                clear hT7 hF7 hch7 hb7
                go_wp2
                go_roundw
                case rel => exact ⟨k + 1, F7, by omega, by go_num, by rw [HS0.out, HS1.out]; exact HT7.out, HB7.out⟩
                case measure => simp [intOf]; omega
              · have HS1 : Hid (S1 = (M, last)) := Lib.hid (by rw [HS.out]; exact applyY_old (by simp only; omega))
                have hdq : decide (lo < xq) = false := decide_eq_false hq
                refine wp_region_quiet_below (by kernel_rfl) (by kernel_rfl) ?_; (repeat (go_big_quiet_step ((first | (go_at_call 14; (with_reducible refine Calls.regrown_of (HCk.out _ (Bg _ _)))) | (go_at_call 15; (with_reducible refine Calls.regrown_of (HLy.out _ (Bg _ _)))) | (go_at_call 15; (with_reducible refine Calls.regrown_of (HLo.out _ (Bg _ _)))))))); refine wpQuiet_nil ?_; rintro _ ⟨pq, rfl⟩
                go_wp2
                go_roundw
                case rel => exact ⟨k + 1, F', by omega, by go_num, by rw [HS0.out, HS1.out]; exact HT5.out.below (Bg _ _), HB5.out.trans ((Bg _ _).mono HB5.out.size)⟩
                case measure => simp [intOf]; omega
            · by_cases hq : last < xq
              · have HS1 : Hid (S1 = (mbat M xL xq xL.length, xq + xL.length - 1)) := Lib.hid (by rw [HS.out]; exact applyY_yes Hr.out (by simp only; omega))
                have hdq : decide (last < xq) = true := decide_eq_true hq
                obtain ⟨_, hl1, hl2, hs0, hs1⟩ := batRight_all Hr.out
                refine wp_region_quiet_below (by kernel_rfl) (by kernel_rfl) ?_; (repeat (go_big_quiet_step ((first | (go_at_call 14; (with_reducible refine Calls.regrown_of (HCk.out _ (Bg _ _)))) | (go_at_call 15; (with_reducible refine Calls.regrown_of (HLy.out _ (Bg _ _)))) | (go_at_call 15; (with_reducible refine Calls.regrown_of (HLo.out _ (Bg _ _)))))))); refine wpQuiet_nil ?_; rintro _ ⟨pq, rfl⟩
                go_upto_region 12 with (fail)
                refine gen_wp (fun w' => Below w5.heap.size w5 w') (Bg _ _) ?_
                rintro w6 hb6
                have e0 := s0 _ hb6
                have e1 := s1 _ hb6
                have hT6 := HT5.out.below hb6
                have HB6 := Lib.hid (HB5.out.trans (hb6.mono HB5.out.size))
                have HBw6 := Lib.hid (HBw.out.trans (hb6.mono HBw.out.size))
                have HAp := Lib.hid (TB.apply0 hT6 (a := xa) (c := xc) (fun w' hc => HO.out _ (HBw6.out.trans (hc.below (fun q hq => Nat.le_trans HB3.out.size (hT6.ge q hq).1) HBw6.out.size))) hm Hr.out (show last < xq by omega) (by omega))
                clear hb6 hT6 Bg
                go_wp2_with fail; (with_reducible refine (HAp.out).mono ?_); rintro e w7 ⟨rfl, F7, hT7, hF7, hch7, hb7⟩
                have HT7 := Lib.hid hT7
                have HB7 := Lib.hid (HB6.out.trans hb7)
                clear hT7 hF7 hch7 hb7
                go_wp2
                go_roundw
                case rel => exact ⟨k + 1, F7, by omega, by go_num, by rw [HS0.out, HS1.out]; exact HT7.out, HB7.out⟩
                case measure => simp [intOf]; omega
              · have HS1 : Hid (S1 = (M, last)) := Lib.hid (by rw [HS.out]; exact applyY_old (by simp only; omega))
                have hdq : decide (last < xq) = false := decide_eq_false hq
                refine wp_region_quiet_below (by kernel_rfl) (by kernel_rfl) ?_; (repeat (go_big_quiet_step ((first | (go_at_call 14; (with_reducible refine Calls.regrown_of (HCk.out _ (Bg _ _)))) | (go_at_call 15; (with_reducible refine Calls.regrown_of (HLy.out _ (Bg _ _)))) | (go_at_call 15; (with_reducible refine Calls.regrown_of (HLo.out _ (Bg _ _)))))))); refine wpQuiet_nil ?_; rintro _ ⟨pq, rfl⟩
                go_wp2
                go_roundw
                case rel => exact ⟨k + 1, F', by omega, by go_num, by rw [HS0.out, HS1.out]; exact HT5.out.below (Bg _ _), HB5.out.trans ((Bg _ _).mono HB5.out.size)⟩
                case measure => simp [intOf]; omega
        · obtain rfl : k = R.length := by omega
          go_upto_region 14 with (fail)
          refine gen_wp (fun w' => w' = wr) rfl ?_
          intro w8 hw8
          subst hw8
          have HRl := Lib.hid hRl
          clear hRl
          have hyl := HYl.out R.length (Nat.le_refl _)
          have HPt := Lib.hid HPe.out.1
          have HTA4 := Lib.hid (HTA.out.below hbr)
          have HRA4 := Lib.hid (HRA.out.below hbr)
          have HTO4 := Lib.hid (HTO.out.below hbr)
          have HBw := Lib.hid (HB3.out.trans (hbr.mono HB3.out.size))
          have HPg : Hid (∀ u a', (mgotB (youngN R lo R.length).1 u a' = true ∧ mgot A u a' = mgot (youngN R lo R.length).1 u a' ∧ mgotB A u a' = true) ∨ (mgotB (youngN R lo R.length).1 u a' = false ∧ mgot A u a' = mgot O u a' ∧ mgotB A u a' = mgotB O u a')) := Lib.hid fun u a' => parted_got HPt.out HTA.out.inv.rise HTO.out.inv.rise HT.out.inv.rise u a'
          have hPl := HPt.out.len
          have HPl := Lib.hid hPl
          generalize (youngN R lo R.length).1 = Y at *
          generalize (youngN R lo R.length).2 = lastY at *
          clear hPl hbr HPe HYl HTA HRA HTO HBt
          go_wp2
          go_loopw [85] (fun i wx => ∃ j : Nat, j ≤ A.length ∧ i = .int .i64 j ∧ Below w8.heap.size w8 wx) (fun i _ => A.length - (intOf i).toNat)
          case atStart => exact ⟨0, Nat.zero_le _, rfl, Below.refl _ _⟩
          case round =>
            obtain ⟨j, hj, rfl, hbx⟩ := hrel
            by_cases hlj : j < A.length
            · obtain ⟨g, rfl, d0, d1, d2, d3⟩ := HRA4.out.cells hbx j hlj
              have hEu := (HTA4.out.inv.ok _ (List.getElem_mem hlj)).user
              generalize A[j] = E at *
              obtain ⟨Eu, Es, Ek, Ev⟩ := E
              simp only at d0 d1 d2 d3 hEu
              have hpg := HPg.out Eu at'
              obtain ⟨vu, vs, vk, vv, bis, hg1, hg2, _⟩ := got_agg A Eu at'
              obtain ⟨zu, zs, zk, zv, bz, hz1, hz2, _⟩ := got_agg Y Eu at'
              have hq := fun W => neMe vu vs vk vv W
              have HGa : Hid (∀ W, Below w8.heap.size w8 W → Calls Try.prog 11 #[.pointer (some ⟨t, 0, none⟩), .string Eu, .int .i64 at'] W fun e w' => e = .returned (.tuple #[.agg #[.string vu, .int .i64 vs, .int .i64 vk, .string vv], .bool bis]) ∧ Below W.heap.size W w') := Lib.hid fun W hb => by
                have h1 := (HTA4.out.below hb).get (by omega) Eu at' hEu ha ha2
                rw [hg1, hg2] at h1; exact h1
              go_upto_region 17 with (fail)
              refine gen_wp (fun w' => Below wr.heap.size wr w' ∧ w'.heap[wr.heap.size]? = some (.cells #[.string Eu, .int .i64 Es, .int .i64 Ek, .string Ev] 49 (0, 0))) ⟨(Below.refl _ wr).alloc (Nat.le_refl _) _, heap_alloc_new wr _⟩ ?_
              rintro w5 ⟨hb5, b5⟩
              obtain ⟨e0, _⟩ := mcell_four b5
              have HB5 := Lib.hid (hbx.trans (hb5.mono hbx.size))
              clear hb5 b5 hbx d0 d1 d2 d3
              generalize wr.heap.size = eq at *
              go_wp2_with fail; (with_reducible refine (HGa.out _ HB5.out).mono ?_); rintro e w6 ⟨rfl, hb6⟩
              have e60 := cell_next e0 w6 hb6
              have HB6 := Lib.hid (HB5.out.trans (hb6.mono HB5.out.size))
              go_upto_region 19 with (fail)
              refine gen_wp (fun w' => Below w6.heap.size w6 w' ∧ w'.heap[w6.heap.size]? = some (.cells #[.string vu, .int .i64 vs, .int .i64 vk, .string vv] 36 (0, 0))) ⟨(Below.refl _ w6).alloc (Nat.le_refl _) _, heap_alloc_new w6 _⟩ ?_
              rintro w7 ⟨hb7, b7⟩
              have HB7 := Lib.hid (HB6.out.trans (hb7.mono HB6.out.size))
              have e0 := cell_next e60 w7 hb7
              clear hb6 hb7
              generalize w6.heap.size = qa at *
              obtain ⟨a0, a1, a2, a3, _⟩ := mcell_four b7
              have HGy : Hid (Calls Try.prog 11 #[.pointer (some ⟨t4, 0, none⟩), .string Eu, .int .i64 at'] w7 fun e w' => e = .returned (.tuple #[.agg #[.string zu, .int .i64 zs, .int .i64 zk, .string zv], .bool bz]) ∧ Below w7.heap.size w7 w') := Lib.hid (by
                have h1 := (HT.out.below HB7.out).get (by omega) Eu at' hEu ha ha2
                rw [hz1, hz2] at h1; exact h1)
              go_wp2_with fail; (with_reducible refine (HGy.out).mono ?_); rintro e w10 ⟨rfl, hb10⟩
              have HB10 := Lib.hid (HB7.out.trans (hb10.mono HB7.out.size))
              have a0 := cell_next a0 w10 hb10
              have a1 := cell_next a1 w10 hb10
              have a2 := cell_next a2 w10 hb10
              have a3 := cell_next a3 w10 hb10
              go_upto_region 20 with (fail)
              refine gen_wp (fun w' => Below w10.heap.size w10 w' ∧ w'.heap[w10.heap.size]? = some (.cells #[.string zu, .int .i64 zs, .int .i64 zk, .string zv] 36 (0, 0))) ⟨(Below.refl _ w10).alloc (Nat.le_refl _) _, heap_alloc_new w10 _⟩ ?_
              rintro w11 ⟨hb11, b11⟩
              have HB11 := Lib.hid (HB10.out.trans (hb11.mono HB10.out.size))
              have a0 := cell_next a0 w11 hb11
              have a1 := cell_next a1 w11 hb11
              have a2 := cell_next a2 w11 hb11
              have a3 := cell_next a3 w11 hb11
              have hqa : qa < w10.heap.size := World.block_lt_of_cell? w10 _ (by assumption)
              have hbl10 : w8.heap.size ≤ w10.heap.size := HB10.out.size
              clear hb10 hb11 b7
              generalize hqb : w10.heap.size = qb at *
              clear hqb
              rcases hpg with ⟨p1, p2, p3⟩ | ⟨p1, p2, p3⟩
              · obtain rfl : bz = true := by rw [← hz2]; exact p1
                obtain rfl : bis = true := by rw [← hg2]; exact p3
                have hagg : (Value.agg #[.string vu, .int .i64 vs, .int .i64 vk, .string vv]) = .agg #[.string zu, .int .i64 zs, .int .i64 zk, .string zv] := by rw [← hg1, ← hz1]; exact p2
                injection hagg with hagg
                simp only [Array.mk.injEq, List.cons.injEq, Value.string.injEq, Value.int.injEq, true_and, and_true] at hagg
                obtain ⟨rfl, rfl, rfl, rfl⟩ := hagg
                obtain ⟨c0, c1, c2, c3, _⟩ := mcell_four b11
                clear hg1 hg2 hz1 hz2 p1 p2 p3 b11
                go_wp2
                go_roundw
                case rel => exact ⟨j + 1, by omega, by go_num, HB11.out⟩
                case measure => simp [intOf]; omega
              · obtain rfl : bz = false := by rw [← hz2]; exact p1
                have HGo : Hid (Calls Try.prog 11 #[.pointer (some ⟨t3, 0, none⟩), .string Eu, .int .i64 at'] w11 fun e w' => e = .returned (.tuple #[.agg #[.string vu, .int .i64 vs, .int .i64 vk, .string vv], .bool bis]) ∧ Below w11.heap.size w11 w') := Lib.hid (by
                  have h1 := (HTO4.out.below HB11.out).get (by omega) Eu at' hEu ha ha2
                  rw [← p2, ← p3, hg1, hg2] at h1; exact h1)
                clear hg1 hg2 hz1 hz2 p1 p2 p3
                go_wp2_with fail; (with_reducible refine (HGo.out).mono ?_); rintro e w12 ⟨rfl, hb12⟩
                have hqb11 := blk_lt b11
                have b12 := (hb12.block _ hqb11).trans b11
                have HB12 := Lib.hid (HB11.out.trans (hb12.mono HB11.out.size))
                have a0 := cell_next a0 w12 hb12
                have a1 := cell_next a1 w12 hb12
                have a2 := cell_next a2 w12 hb12
                have a3 := cell_next a3 w12 hb12
                obtain ⟨c0, c1, c2, c3, cf⟩ := mcell_four b12
                have cf0 := cf 0; have cf1 := cf 1; have cf2 := cf 2; have cf3 := cf 3
                have hqb12 := blk_lt b12
                have hne : qa ≠ qb := by omega
                clear hb12 b11 b12 cf
                cases bis with
                | true =>
                  go_wp2
                  go_roundw
                  case rel => exact ⟨j + 1, by omega, by go_num, by
                    (repeat first | exact HB12.out | refine Below.setCell ?_ (by simp <;> omega) _)⟩
                  case measure => simp [intOf]; omega
                | false =>
                  go_wp2
                  go_roundw
                  case rel => exact ⟨j + 1, by omega, by go_num, by
                    (repeat first | exact HB12.out | refine Below.setCell ?_ (by simp <;> omega) _)⟩
                  case measure => simp [intOf]; omega
            · have hbw := HBw.out.trans (hbx.mono HBw.out.size)
              have HBx := Lib.hid hbx
              have HL1 := Lib.hid ((HT.out.below hbx).len (by omega))
              have HBw2 := Lib.hid hbw
              clear hbx hbw
              go_wp2_with fail; (with_reducible refine (HL1.out).mono ?_); rintro e wa ⟨rfl, hba⟩
              have HBa := Lib.hid (HBx.out.trans (hba.mono HBx.out.size))
              have HBwa := Lib.hid (HBw2.out.trans (hba.mono HBw2.out.size))
              have HL2 := Lib.hid ((HTO4.out.below HBa.out).len (by omega))
              clear hba
              go_wp2_with fail; (with_reducible refine (HL2.out).mono ?_); rintro e wb ⟨rfl, hbb⟩
              have HBb := Lib.hid (HBa.out.trans (hbb.mono HBa.out.size))
              have HBwb := Lib.hid (HBwa.out.trans (hbb.mono HBwa.out.size))
              have HL3 := Lib.hid ((HTA4.out.below HBb.out).len (by omega))
              clear hbb
              go_wp2_with fail; (with_reducible refine (HL3.out).mono ?_); rintro e wc ⟨rfl, hbc⟩
              have HBwc := Lib.hid (HBwb.out.trans (hbc.mono HBwb.out.size))
              clear hbc
              have hsum : (((Y.length : Int) + (O.length : Int)) == (A.length : Int)) = true := by rw [beq_iff_eq]; have := HPl.out; omega
              go_wp2_with fail; (with_reducible refine (awake11 _).mono ?_); rintro e wd ⟨rfl, hbd⟩
              go_wp2
              go_ret
              exact ⟨rfl, HBwc.out.trans (hbd.mono HBwc.out.size)⟩
    · go_enter Try.func4, Try.ntmps4
      go_wp2_with fail; (with_reducible refine (HSm.out).mono ?_); rintro e w1 ⟨rfl, hb1⟩
      have HFa := Lib.hid (mfill0 (c := n) (H.out.below hb1) hs30)
      go_wp2_with fail; (with_reducible refine (HFa.out).mono ?_); rintro e w2 ⟨t, p, F, v, rfl, hT, hR, hb2⟩
      have HB2 := Lib.hid (bnext hb1 hb2)
      go_wp2_with fail; (with_reducible refine (HF2.out _ HB2.out).mono ?_); rintro e w3 ⟨t3, p3, F3, v3, rfl, hT3, hR3, hb3⟩
      have HB3 := Lib.hid (bnext HB2.out hb3)
      have hTA := hT.below hb3
      have hRA := hR.below hb3
      obtain ⟨av, cv, rfl⟩ := hRA.shape
      obtain ⟨R, hRd⟩ : ∃ R, l.drop n = R := ⟨_, rfl⟩
      have hpt := parted_all hnl (O := (fillN l n).1) (lo := (fillN l n).2) rfl hT3.inv.low hT3.inv.top
      rw [hRd] at hpt
      have hRl : R.length = l.length - n := by rw [← hRd, List.length_drop]
      have hpe := hpt R.length (Nat.le_refl _)
      rw [show n + R.length = l.length by omega] at hpe
      have HPe := Lib.hid hpe
      have hAl := fillN_len l l.length (Nat.le_refl _)
      have hOl := fillN_len l n hnl
      have hYl := youngN_len R (fillN l n).2
      have HYl := Lib.hid hYl
      have HTA := Lib.hid hTA
      have HRA := Lib.hid hRA
      have HTO := Lib.hid hT3
      have HBt : Hid (BTs w (some (x)) R) := Lib.hid (by
        have : R = [] := List.eq_nil_of_length_eq_zero (by omega); subst this; exact ⟨fun h => absurd h (Nat.lt_irrefl _), fun x hx => absurd hx (by simp)⟩)
      have hR30 : R.length ≤ 30 := by omega
      clear hpt hpe hRd hT hR hT3 hR3 hb1 hb2 hb3 hTA hRA hYl HFa HSm
      generalize (fillN l l.length).1 = A at *
      generalize (fillN l l.length).2 = lastA at *
      generalize (fillN l n).1 = O at *
      generalize hlo : (fillN l n).2 = lo at *
      go_wp2_with fail; (with_reducible refine (TB.new w3).mono ?_); rintro e w4 ⟨t4, p4, F4, rfl, hT4, hb4⟩
      have HT4 := Lib.hid hT4
      have HB4 := Lib.hid hb4
      clear hT4 hb4 hlo
      go_upto_region 9 with (fail)
      skip
      skip
      skip
      go_wp2
      go_loopw [62] (fun i wr => ∃ (k : Nat) (F' : Nat → Prop), k ≤ R.length ∧ i = .int .i64 k ∧ TB wr w3.heap.size t4 p4 F' (youngN R lo k).1 (youngN R lo k).2 ∧ Below w3.heap.size w3 wr) (fun i _ => R.length - (intOf i).toNat)
      case atStart => exact ⟨0, F4, Nat.zero_le _, rfl, HT4.out, HB4.out⟩
      case round =>
        clear HT4 HB4
        obtain ⟨k, F', hk, rfl, hT, hbr⟩ := hrel
        have HT := Lib.hid hT
        have HBr := Lib.hid hbr
        clear hT
        by_cases hlt : k < R.length
        · exact absurd hlt (by omega)
        · obtain rfl : k = R.length := by omega
          go_upto_region 14 with (fail)
          refine gen_wp (fun w' => w' = wr) rfl ?_
          intro w8 hw8
          subst hw8
          have HRl := Lib.hid hRl
          clear hRl
          have hyl := HYl.out R.length (Nat.le_refl _)
          have HPt := Lib.hid HPe.out.1
          have HTA4 := Lib.hid (HTA.out.below hbr)
          have HRA4 := Lib.hid (HRA.out.below hbr)
          have HTO4 := Lib.hid (HTO.out.below hbr)
          have HBw := Lib.hid (HB3.out.trans (hbr.mono HB3.out.size))
          have HPg : Hid (∀ u a', (mgotB (youngN R lo R.length).1 u a' = true ∧ mgot A u a' = mgot (youngN R lo R.length).1 u a' ∧ mgotB A u a' = true) ∨ (mgotB (youngN R lo R.length).1 u a' = false ∧ mgot A u a' = mgot O u a' ∧ mgotB A u a' = mgotB O u a')) := Lib.hid fun u a' => parted_got HPt.out HTA.out.inv.rise HTO.out.inv.rise HT.out.inv.rise u a'
          have hPl := HPt.out.len
          have HPl := Lib.hid hPl
          generalize (youngN R lo R.length).1 = Y at *
          generalize (youngN R lo R.length).2 = lastY at *
          clear hPl hbr HPe HYl HTA HRA HTO HBt
          go_wp2
          go_loopw [85] (fun i wx => ∃ j : Nat, j ≤ A.length ∧ i = .int .i64 j ∧ Below w8.heap.size w8 wx) (fun i _ => A.length - (intOf i).toNat)
          case atStart => exact ⟨0, Nat.zero_le _, rfl, Below.refl _ _⟩
          case round =>
            obtain ⟨j, hj, rfl, hbx⟩ := hrel
            by_cases hlj : j < A.length
            · obtain ⟨g, rfl, d0, d1, d2, d3⟩ := HRA4.out.cells hbx j hlj
              have hEu := (HTA4.out.inv.ok _ (List.getElem_mem hlj)).user
              generalize A[j] = E at *
              obtain ⟨Eu, Es, Ek, Ev⟩ := E
              simp only at d0 d1 d2 d3 hEu
              have hpg := HPg.out Eu at'
              obtain ⟨vu, vs, vk, vv, bis, hg1, hg2, _⟩ := got_agg A Eu at'
              obtain ⟨zu, zs, zk, zv, bz, hz1, hz2, _⟩ := got_agg Y Eu at'
              have hq := fun W => neMe vu vs vk vv W
              have HGa : Hid (∀ W, Below w8.heap.size w8 W → Calls Try.prog 11 #[.pointer (some ⟨t, 0, none⟩), .string Eu, .int .i64 at'] W fun e w' => e = .returned (.tuple #[.agg #[.string vu, .int .i64 vs, .int .i64 vk, .string vv], .bool bis]) ∧ Below W.heap.size W w') := Lib.hid fun W hb => by
                have h1 := (HTA4.out.below hb).get (by omega) Eu at' hEu ha ha2
                rw [hg1, hg2] at h1; exact h1
              go_upto_region 17 with (fail)
              refine gen_wp (fun w' => Below wr.heap.size wr w' ∧ w'.heap[wr.heap.size]? = some (.cells #[.string Eu, .int .i64 Es, .int .i64 Ek, .string Ev] 49 (0, 0))) ⟨(Below.refl _ wr).alloc (Nat.le_refl _) _, heap_alloc_new wr _⟩ ?_
              rintro w5 ⟨hb5, b5⟩
              obtain ⟨e0, _⟩ := mcell_four b5
              have HB5 := Lib.hid (hbx.trans (hb5.mono hbx.size))
              clear hb5 b5 hbx d0 d1 d2 d3
              generalize wr.heap.size = eq at *
              go_wp2_with fail; (with_reducible refine (HGa.out _ HB5.out).mono ?_); rintro e w6 ⟨rfl, hb6⟩
              have e60 := cell_next e0 w6 hb6
              have HB6 := Lib.hid (HB5.out.trans (hb6.mono HB5.out.size))
              go_upto_region 19 with (fail)
              refine gen_wp (fun w' => Below w6.heap.size w6 w' ∧ w'.heap[w6.heap.size]? = some (.cells #[.string vu, .int .i64 vs, .int .i64 vk, .string vv] 36 (0, 0))) ⟨(Below.refl _ w6).alloc (Nat.le_refl _) _, heap_alloc_new w6 _⟩ ?_
              rintro w7 ⟨hb7, b7⟩
              have HB7 := Lib.hid (HB6.out.trans (hb7.mono HB6.out.size))
              have e0 := cell_next e60 w7 hb7
              clear hb6 hb7
              generalize w6.heap.size = qa at *
              obtain ⟨a0, a1, a2, a3, _⟩ := mcell_four b7
              have HGy : Hid (Calls Try.prog 11 #[.pointer (some ⟨t4, 0, none⟩), .string Eu, .int .i64 at'] w7 fun e w' => e = .returned (.tuple #[.agg #[.string zu, .int .i64 zs, .int .i64 zk, .string zv], .bool bz]) ∧ Below w7.heap.size w7 w') := Lib.hid (by
                have h1 := (HT.out.below HB7.out).get (by omega) Eu at' hEu ha ha2
                rw [hz1, hz2] at h1; exact h1)
              go_wp2_with fail; (with_reducible refine (HGy.out).mono ?_); rintro e w10 ⟨rfl, hb10⟩
              have HB10 := Lib.hid (HB7.out.trans (hb10.mono HB7.out.size))
              have a0 := cell_next a0 w10 hb10
              have a1 := cell_next a1 w10 hb10
              have a2 := cell_next a2 w10 hb10
              have a3 := cell_next a3 w10 hb10
              go_upto_region 20 with (fail)
              refine gen_wp (fun w' => Below w10.heap.size w10 w' ∧ w'.heap[w10.heap.size]? = some (.cells #[.string zu, .int .i64 zs, .int .i64 zk, .string zv] 36 (0, 0))) ⟨(Below.refl _ w10).alloc (Nat.le_refl _) _, heap_alloc_new w10 _⟩ ?_
              rintro w11 ⟨hb11, b11⟩
              have HB11 := Lib.hid (HB10.out.trans (hb11.mono HB10.out.size))
              have a0 := cell_next a0 w11 hb11
              have a1 := cell_next a1 w11 hb11
              have a2 := cell_next a2 w11 hb11
              have a3 := cell_next a3 w11 hb11
              have hqa : qa < w10.heap.size := World.block_lt_of_cell? w10 _ (by assumption)
              have hbl10 : w8.heap.size ≤ w10.heap.size := HB10.out.size
              clear hb10 hb11 b7
              generalize hqb : w10.heap.size = qb at *
              clear hqb
              rcases hpg with ⟨p1, p2, p3⟩ | ⟨p1, p2, p3⟩
              · obtain rfl : bz = true := by rw [← hz2]; exact p1
                obtain rfl : bis = true := by rw [← hg2]; exact p3
                have hagg : (Value.agg #[.string vu, .int .i64 vs, .int .i64 vk, .string vv]) = .agg #[.string zu, .int .i64 zs, .int .i64 zk, .string zv] := by rw [← hg1, ← hz1]; exact p2
                injection hagg with hagg
                simp only [Array.mk.injEq, List.cons.injEq, Value.string.injEq, Value.int.injEq, true_and, and_true] at hagg
                obtain ⟨rfl, rfl, rfl, rfl⟩ := hagg
                obtain ⟨c0, c1, c2, c3, _⟩ := mcell_four b11
                clear hg1 hg2 hz1 hz2 p1 p2 p3 b11
                go_wp2
                go_roundw
                case rel => exact ⟨j + 1, by omega, by go_num, HB11.out⟩
                case measure => simp [intOf]; omega
              · obtain rfl : bz = false := by rw [← hz2]; exact p1
                have HGo : Hid (Calls Try.prog 11 #[.pointer (some ⟨t3, 0, none⟩), .string Eu, .int .i64 at'] w11 fun e w' => e = .returned (.tuple #[.agg #[.string vu, .int .i64 vs, .int .i64 vk, .string vv], .bool bis]) ∧ Below w11.heap.size w11 w') := Lib.hid (by
                  have h1 := (HTO4.out.below HB11.out).get (by omega) Eu at' hEu ha ha2
                  rw [← p2, ← p3, hg1, hg2] at h1; exact h1)
                clear hg1 hg2 hz1 hz2 p1 p2 p3
                go_wp2_with fail; (with_reducible refine (HGo.out).mono ?_); rintro e w12 ⟨rfl, hb12⟩
                have hqb11 := blk_lt b11
                have b12 := (hb12.block _ hqb11).trans b11
                have HB12 := Lib.hid (HB11.out.trans (hb12.mono HB11.out.size))
                have a0 := cell_next a0 w12 hb12
                have a1 := cell_next a1 w12 hb12
                have a2 := cell_next a2 w12 hb12
                have a3 := cell_next a3 w12 hb12
                obtain ⟨c0, c1, c2, c3, cf⟩ := mcell_four b12
                have cf0 := cf 0; have cf1 := cf 1; have cf2 := cf 2; have cf3 := cf 3
                have hqb12 := blk_lt b12
                have hne : qa ≠ qb := by omega
                clear hb12 b11 b12 cf
                cases bis with
                | true =>
                  go_wp2
                  go_roundw
                  case rel => exact ⟨j + 1, by omega, by go_num, by
                    (repeat first | exact HB12.out | refine Below.setCell ?_ (by simp <;> omega) _)⟩
                  case measure => simp [intOf]; omega
                | false =>
                  go_wp2
                  go_roundw
                  case rel => exact ⟨j + 1, by omega, by go_num, by
                    (repeat first | exact HB12.out | refine Below.setCell ?_ (by simp <;> omega) _)⟩
                  case measure => simp [intOf]; omega
            · have hbw := HBw.out.trans (hbx.mono HBw.out.size)
              have HBx := Lib.hid hbx
              have HL1 := Lib.hid ((HT.out.below hbx).len (by omega))
              have HBw2 := Lib.hid hbw
              clear hbx hbw
              go_wp2_with fail; (with_reducible refine (HL1.out).mono ?_); rintro e wa ⟨rfl, hba⟩
              have HBa := Lib.hid (HBx.out.trans (hba.mono HBx.out.size))
              have HBwa := Lib.hid (HBw2.out.trans (hba.mono HBw2.out.size))
              have HL2 := Lib.hid ((HTO4.out.below HBa.out).len (by omega))
              clear hba
              go_wp2_with fail; (with_reducible refine (HL2.out).mono ?_); rintro e wb ⟨rfl, hbb⟩
              have HBb := Lib.hid (HBa.out.trans (hbb.mono HBa.out.size))
              have HBwb := Lib.hid (HBwa.out.trans (hbb.mono HBwa.out.size))
              have HL3 := Lib.hid ((HTA4.out.below HBb.out).len (by omega))
              clear hbb
              go_wp2_with fail; (with_reducible refine (HL3.out).mono ?_); rintro e wc ⟨rfl, hbc⟩
              have HBwc := Lib.hid (HBwb.out.trans (hbc.mono HBwb.out.size))
              clear hbc
              have hsum : (((Y.length : Int) + (O.length : Int)) == (A.length : Int)) = true := by rw [beq_iff_eq]; have := HPl.out; omega
              go_wp2_with fail; (with_reducible refine (awake11 _).mono ?_); rintro e wd ⟨rfl, hbd⟩
              go_wp2
              go_ret
              exact ⟨rfl, HBwc.out.trans (hbd.mono HBwc.out.size)⟩
end Go.Proofs.Ytcbkjhbneigkaaa
