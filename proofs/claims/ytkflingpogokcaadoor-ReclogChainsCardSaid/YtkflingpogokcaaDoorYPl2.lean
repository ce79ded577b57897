/- Chapter 09: ReclogPlaces. -/
import Derived.Test.YtkflingpogokcaaDoorYPl1
namespace Go.Proofs.YtkflingpogokcaaDoor
open Go.RowKit Go.Shelf
set_option linter.unusedVariables false
set_option linter.unusedSimpArgs false

theorem cell_four4 {w : World} {k : Nat} {a b c d : Value} {T : TypeId} (h : w.heap[k]? = some (.cells #[a, b, c, d] T (0, 0))) : w.cell? ⟨k, 0, none⟩ = some a ∧ w.cell? ⟨k, 1, none⟩ = some b ∧ w.cell? ⟨k, 2, none⟩ = some c ∧ w.cell? ⟨k, 3, none⟩ = some d := by
  refine ⟨?_, ?_, ?_, ?_⟩ <;> (rw [cell_of_row _ _ _ _ _ _ h]; rfl)
theorem kz_one (w : World) (z : Nat) : KZ (w.alloc (.cells #[.int .i64 (z : Nat)] 3)) (some ⟨w.heap.size, 0, none⟩) (zin [z]) := fun _ => ⟨_, 0, rfl, fun i hi => by
  have h1 : i = 0 := by rw [zin_len] at hi; simp at hi; exact hi
  subst h1
  rw [cell_of_row _ _ _ _ _ _ (heap_alloc_new w _)]
  rfl⟩
set_option maxRecDepth 100000 in
set_option maxHeartbeats 8000000 in
theorem law09_p {w0 : World} {a : Option Addr} {c : Nat} {l : List (Value × List UInt8)} (hT0 : Tab9 w0) (h0 : BSs w0 a l) (hl : l.length ≤ maxLen) (iz ia ib : Int) (hia : ia ≤ 9223372036854775807) :
    Calls Tryd.prog 7 #[.agg #[.slice a l.length c, .int .i64 iz, .int .i64 ia, .int .i64 ib]] w0 fun e w' => e = .returned (.bool true) ∧ Below w0.heap.size w0 w' := by
  have hlm := hl
  unfold maxLen at hl
  obtain ⟨q0, q1, q2, q3⟩ := cell_four4 (heap_alloc_new w0 (.cells #[.slice a l.length c, .int .i64 iz, .int .i64 ia, .int .i64 ib] 36))
  go_enter Tryd.func7, Tryd.ntmps7
  go_upto_region 1 with (fail)
  go_region
  have HB0 : Hid (Below w0.heap.size w0 (w0.alloc (.cells #[.slice a l.length c, .int .i64 iz, .int .i64 ia, .int .i64 ib] 36)).drew) := Lib.hid ((Below.refl _ w0).alloc (Nat.le_refl _) _).drew
  have h := h0.below HB0.out
  have hT := hT0.below HB0.out
  clear q0 q1 q2 q3 h0 hT0
  generalize (w0.alloc (.cells #[.slice a l.length c, .int .i64 iz, .int .i64 ia, .int .i64 ib] 36)).drew = w at *
  have H := Lib.hid h
  have HT := Lib.hid hT
  have hn : Calls Tryd.prog 19 #[.agg #[.int .i64 3, .int .i64 400, .int .i64 3]] w fun e w' => ∃ p F, e = .returned (.pointer (some ⟨p, 0, none⟩)) ∧ DI w' w.heap.size p F (pdv [] 0 0) ∧ Below w.heap.size w w' := DI.new w 3 400 3 (by decide)
  have HN := Lib.hid hn
  clear h hn hT
  go_wp2_with fail; (with_reducible refine (HN.out).mono ?_); rintro e w1 ⟨p, F1, rfl, hD1, hb1⟩
  have HD1 := Lib.hid hD1
  have HB1 := Lib.hid hb1
  have hsm : Calls Tryd.prog 17 #[.slice a l.length c, .int .i64 30] w1 _ := small9 (c := c) (H.out.below hb1) hlm 30 (by decide)
  have HSm := Lib.hid hsm
  clear hD1 hb1 HN hsm
  go_wp2_with fail; (with_reducible refine (HSm.out).mono ?_); rintro e w2 ⟨sm, rfl, hsmz, hb2⟩
  have HB2 := Lib.hid (HB1.out.trans (hb2.mono HB1.out.size))
  have HD2 := Lib.hid (HD1.out.below hb2)
  have HSZ := Lib.hid hsmz
  clear hb2 hsmz HSm HD1 HB1
  cases sm with
  | false =>
    have HA := Lib.hid (awake09 (HT.out.below HB2.out))
    go_wp2_with fail; (with_reducible refine (HA.out).mono ?_); rintro e w3 ⟨rfl, hb3⟩
    go_wp2
    go_ret
    exact ⟨rfl, HB0.out.trans ((HB2.out.trans (hb3.mono HB2.out.size)).mono HB0.out.size)⟩
  | true =>
    obtain ⟨h300, hlc⟩ := HSZ.out.1 rfl
    have H300 := Lib.hid h300
    have hba := (Below.refl w2.heap.size w2).alloc (Nat.le_refl _) (.cells #[.int .i64 1] 3)
    have HBA := Lib.hid hba
    have hnew : Calls Tryd.prog 20 #[.pointer (some ⟨p, 0, none⟩), .slice (some ⟨w2.heap.size, 0, none⟩) 1 1] (w2.alloc (.cells #[.int .i64 1] 3)) fun e w' => ∃ q F, e = .returned (.pointer (some ⟨q, 0, none⟩)) ∧ LI w' w.heap.size q p F (pdv [] 0 0) ([] ++ [1]) ∧ Below (w2.alloc (.cells #[.int .i64 1] 3)).heap.size (w2.alloc (.cells #[.int .i64 1] 3)) w' := lnew (zs := [1]) (c := 1) (HD2.out.below hba) (kz_one w2 1) (fun h => by simp at h) (by decide)
    have HNew := Lib.hid hnew
    clear hnew h300 hba
    go_wp2_with fail; (with_reducible refine (HNew.out).mono ?_); rintro e w3 ⟨q, F3, rfl, hL3, hb3⟩
    have HL3 := Lib.hid hL3
    have HB3 := Lib.hid (HB2.out.trans (((HBA.out).trans (hb3.mono HBA.out.size)).mono HB2.out.size))
    clear hL3 hb3 HNew HD2 HB2 HBA
    go_wp2
    go_loopw [9, 52] (fun v i wr => ∃ (n : Nat) (L : List UInt8) (st k : Nat) (F : Nat → Prop), n ≤ l.length ∧ i = .int .i64 n ∧ OB wr w.heap.size v L ∧ L.length ≤ 400 ∧ (st = 2 ↔ L.length = 400) ∧ k ≤ n ∧ LI wr w.heap.size q p F (pdv L st k) ([] ++ [1]) ∧ (∀ q, v.ownBlock = some q → ¬ F q) ∧ Below w.heap.size w wr) (fun _ i _ => l.length - (intOf i).toNat)
    case atStart => exact ⟨0, [], 0, 0, F3, Nat.zero_le _, rfl, OB.nil _ _, by simp, by simp, Nat.le_refl _, HL3.out, fun q hq => by simp [Value.ownBlock] at hq, HB3.out⟩
    case round =>
      clear HL3 HB3
      obtain ⟨n, L, st, k, F, hn, rfl, hO, hL, hst, hk, hD, hap, hbr⟩ := hrel
      obtain ⟨av, cv, rfl, hcv⟩ := hO.reads.shape
      have HO := Lib.hid hO
      have HST := Lib.hid hst
      have HD := Lib.hid hD
      have HAP := Lib.hid hap
      clear hO hst hD hap
      by_cases hlt : n < l.length
      · obtain ⟨b, off, ao, cc, rfl, hve, f0, hrb, _⟩ := H.out.cell hbr n hlt
        have hm3 := H300.out _ (List.getElem_mem hlt)
        have hrw := (H.out.2 _ (List.getElem_mem hlt)).1
        rw [hve] at hrw
        have HRW := Lib.hid hrw
        clear hve hrw
        generalize l[n].2 = m at *
        have HBR := Lib.hid hbr
        have HRB := Lib.hid hrb
        have HTr := Lib.hid (HT.out.below hbr)
        have hfl := frB_len m
        have hn9 := num_len9 (n := m.length) (by omega)
        have hkb : (pdv L st k).done < 4611686018427387904 := by show k < _; omega
        have hrm := pdv_rm L st k
        by_cases hfull : zrm (pdv L st k) ((1 : Nat) : Int) < ((frB m).length : Int)
        · have Hap := Lib.hid (HD.out.append_full (by simp) HTr.out hrb (by omega) (by show _ ≤ 400; omega) hfull)
          clear hrm hfull hrb hbr hfl
          go_wp2_with fail; (with_reducible refine (Hap.out).mono ?_); rintro e w4 ⟨rfl, hb4⟩
          have HX : Hid (OB w4 w.heap.size (.slice av L.length cv) L ∧ LI w4 w.heap.size q p F (pdv L st k) ([] ++ [1]) ∧ Below w.heap.size w w4) := Lib.hid ⟨HO.out.past hb4 (Nat.le_refl _), HD.out.below hb4, HBR.out.trans (hb4.mono HBR.out.size)⟩
          clear hb4
          go_wp2
          go_roundw
          case rel => exact ⟨n + 1, L, st, k, F, by omega, by go_num, HX.out.1, hL, HST.out, by omega, HX.out.2.1, HAP.out, HX.out.2.2⟩
          case measure => simp [intOf]; omega
        · have hs2 : st ≠ 2 := fun e => by rw [hrm, if_pos e] at hfull; omega
          rw [hrm, if_neg hs2] at hfull
          have hroom : L.length + (frB m).length ≤ 400 := by omega
          have hz := HD.out.append (er := 0) (by simp) HTr.out hrb (by omega) (by show _ ≤ 400; omega) (by rw [hrm, if_neg hs2]; omega) hkb (pdv_app L (frB m) st k hs2 hroom) rfl
          rw [pdv_pt] at hz
          have Hap := Lib.hid hz
          have hlen2 : (L ++ frB m).length = L.length + (frB m).length := List.length_append
          have Hlen2 := Lib.hid hlen2
          have HST2 : Hid ((if L.length + (frB m).length = 400 then 2 else 1) = 2 ↔ (L ++ frB m).length = 400) := Lib.hid (by rw [hlen2]; by_cases h : L.length + (frB m).length = 400 <;> simp [h])
          have Hbk := Lib.hid (pdv_back L m (if L.length + (frB m).length = 400 then 2 else 1) (k + 1) hm3)
          clear hrm hfull hrb hbr hfl hz hlen2 hs2
          go_wp2_with fail; (with_reducible refine (Hap.out).mono ?_); rintro e w4 ⟨rfl, ho4⟩
          have hb4 := ho4.below HD.out.ge HD.out.room
          obtain ⟨⟨F4, hD4, hF4⟩, hc4⟩ := ho4
          have HO4 := Lib.hid (HO.out.chg hc4 HAP.out)
          have HAP4 : Hid (∀ q, (Value.slice av L.length cv).ownBlock = some q → ¬ F4 q) := Lib.hid fun q hq hf4 => by
            rcases hF4 q hf4 with h | h
            · exact HAP.out q hq h
            · have := (HO.out.lt hq).2; omega
          have HBB := Lib.hid (HBR.out.trans hb4)
          have HD4 := Lib.hid hD4
          have HR4 := Lib.hid (HRW.out.below HBB.out)
          have HT4 := Lib.hid (HT.out.below HBB.out)
          clear hb4 hD4 hF4 hc4 HBR HRB HD HO HAP HTr
          have HFr := Lib.hid (rframe HT4.out HR4.out (by omega))
          go_wp2_with fail; (with_reducible refine (HFr.out).mono ?_); rintro e w5 ⟨v5, rfl, ho5, hb5⟩
          obtain ⟨a5, n5, c5, rfl, hm5⟩ := ho5.shape
          obtain rfl := ho5.len
          have HB5 := Lib.hid (HBB.out.trans (hb5.mono HBB.out.size))
          have HO5 := Lib.hid (HO4.out.past hb5 (Nat.le_refl _))
          have HD5 := Lib.hid (HD4.out.below hb5)
          have HR5 := Lib.hid ho5.reads
          have hbz5 := HB5.out.size
          have hlen4 : L.length + (frB m).length ≤ 140737488355328 := by omega
          clear ho5 hb5 HFr HO4 HD4 HR4 HT4 HBB
          have HY : Hid (∀ v1 w6, OB w6 w.heap.size v1 (L ++ frB m) → App w5 w6 (.slice av L.length cv) v1 → OB w6 w.heap.size v1 (L ++ frB m) ∧ LI w6 w.heap.size q p F4 (pdv (L ++ frB m) (if L.length + (frB m).length = 400 then 2 else 1) (k + 1)) ([] ++ [1]) ∧ (∀ q, v1.ownBlock = some q → ¬ F4 q) ∧ Below w.heap.size w w6) := Lib.hid fun v1 w6 ho1 ha1 => by
            refine ⟨ho1, HD5.out.chg (Chg.of_app ha1) (fun q hq e => HAP4.out q e hq), fun q hq hf => ?_, HB5.out.trans ((Chg.of_app ha1).below (fun q hq => (HO5.out.lt hq).1) hbz5)⟩
            rcases ha1.lies with e | ⟨g, e, hg⟩
            · exact HAP4.out q (by rw [← e]; exact hq) hf
            · rw [e] at hq; cases hq; have := (HD5.out.ge _ hf).2; omega
          go_wp2_with (at_builtin; go_loud (refine wpList_appr rfl (.tmp 69) (.tmp 71) rfl w.heap.size _ L rfl HO5.out _ (frB m) rfl HR5.out hlen4 hbz5 ?_); intro v1 w6 ho1 hold ha1; have HX := Lib.hid (HY.out _ _ ho1 ha1); clear ho1 hold ha1)
          have hra : Calls Tryd.prog 22 #[.pointer (some ⟨q, 0, none⟩), .int .i64 1, .int .i64 (L.length : Nat), .int .i64 (m.length : Nat)] w6 fun e w' => ∃ v, e = .returned (.tuple #[v, .int .i64 0]) ∧ OB w' w6.heap.size v m ∧ Below w6.heap.size w6 w' := by
            have := HX.out.2.1.readAt (HT.out.below HX.out.2.2.2) 1 (L.length : Nat) (m.length : Nat)
            rw [Hbk.out] at this
            exact this
          have HRa := Lib.hid hra
          clear hra
          go_wp2_with fail; (with_reducible refine (HRa.out).mono ?_); rintro e w7 ⟨v7, rfl, ho7, hb7⟩
          obtain ⟨a7, n7, c7, rfl, hm7⟩ := ho7.shape
          obtain rfl := ho7.len
          have hz6 := HX.out.2.2.2.size
          have HB7 := Lib.hid (HX.out.2.2.2.trans (hb7.mono hz6))
          have HSa := Lib.hid (same_b ho7.reads (HRW.out.below HB7.out) true (by simp))
          have HZ7 : Hid (OB w7 w.heap.size v1 (L ++ frB m) ∧ LI w7 w.heap.size q p F4 (pdv (L ++ frB m) (if L.length + (frB m).length = 400 then 2 else 1) (k + 1)) ([] ++ [1])) := Lib.hid ⟨HX.out.1.past hb7 (Nat.le_refl _), HX.out.2.1.below hb7⟩
          clear ho7 hb7 HRa
          go_wp2_with fail; (with_reducible refine (HSa.out).mono ?_); rintro e w8 ⟨rfl, hb8⟩
          have hz7 := HB7.out.size
          have HZ8 : Hid (OB w8 w.heap.size v1 (L ++ frB m) ∧ LI w8 w.heap.size q p F4 (pdv (L ++ frB m) (if L.length + (frB m).length = 400 then 2 else 1) (k + 1)) ([] ++ [1]) ∧ Below w.heap.size w w8) := Lib.hid ⟨HZ7.out.1.past hb8 (Nat.le_refl _), HZ7.out.2.below hb8, HB7.out.trans (hb8.mono hz7)⟩
          clear hb8 HSa
          go_wp2
          go_roundw
          case rel => exact ⟨n + 1, L ++ frB m, _, k + 1, F4, by omega, by go_num, HZ8.out.1, by rw [Hlen2.out]; exact hroom, HST2.out, by omega, HZ8.out.2.1, HX.out.2.2.1, HZ8.out.2.2⟩
          case measure => simp [intOf]; omega
      · have HBR := Lib.hid hbr
        have HRA := Lib.hid (HD.out.readAt (HT.out.below hbr) iz ia ib)
        clear HD HAP HST hbr
        by_cases hbad : iz ≠ 1 ∨ ia < 0 ∨ ib < 0 ∨ 400 < ib ∨ (L.length : Int) < ia ∨ (L.length : Int) - ia < fsz ib
        · have hra : Calls Tryd.prog 22 #[.pointer (some ⟨q, 0, none⟩), .int .i64 iz, .int .i64 ia, .int .i64 ib] wr fun e w' => ∃ v, e = .returned (.tuple #[v, .int .i64 70]) ∧ OB w' wr.heap.size v [] ∧ Below wr.heap.size wr w' := by
            have := HRA.out
            rw [pdv_bad hL hbad] at this
            exact this
          have HRa := Lib.hid hra
          have h6 : (iz != 1) = true ∨ (iz = 1 ∧ ia < 0) ∨ (iz = 1 ∧ 0 ≤ ia ∧ ib < 0) ∨ (iz = 1 ∧ 0 ≤ ia ∧ 0 ≤ ib ∧ 400 < ib) ∨ (iz = 1 ∧ 0 ≤ ia ∧ 0 ≤ ib ∧ ib ≤ 400 ∧ (L.length : Int) < ia) ∨ (iz = 1 ∧ 0 ≤ ia ∧ 0 ≤ ib ∧ ib ≤ 400 ∧ ia ≤ (L.length : Int) ∧ (L.length : Int) - ia < fsz ib) := by
            rw [bne_iff_ne]; omega
          clear hra HRA hbad HO
          generalize L.length = bl at *
          rcases h6 with h1 | ⟨rfl, h1⟩ | ⟨rfl, h1, h2⟩ | ⟨rfl, h1, h2, h3⟩ | ⟨rfl, h1, h2, h3, h4⟩ | ⟨rfl, h1, h2, h3, h4, h5⟩
          · have HSz := trivial
            go_wp2_with fail; (with_reducible refine (HRa.out).mono ?_); rintro e w5 ⟨v5, rfl, ho5, hb5⟩
            obtain ⟨a5, n5, c5, rfl, hm5⟩ := ho5.shape
            obtain rfl := ho5.len
            have HB5 := Lib.hid (HBR.out.trans (hb5.mono HBR.out.size))
            simp only [List.length_nil]
            clear ho5 hb5
            skip
            go_wp2_with fail; (with_reducible refine (awake09 (HT.out.below HB5.out)).mono ?_); rintro e w7 ⟨rfl, hb7⟩
            go_wp2
            go_ret
            exact ⟨rfl, HB0.out.trans ((HB5.out.trans (hb7.mono HB5.out.size)).mono HB0.out.size)⟩
          · have HSz := trivial
            go_wp2_with fail; (with_reducible refine (HRa.out).mono ?_); rintro e w5 ⟨v5, rfl, ho5, hb5⟩
            obtain ⟨a5, n5, c5, rfl, hm5⟩ := ho5.shape
            obtain rfl := ho5.len
            have HB5 := Lib.hid (HBR.out.trans (hb5.mono HBR.out.size))
            simp only [List.length_nil]
            clear ho5 hb5
            skip
            go_wp2_with fail; (with_reducible refine (awake09 (HT.out.below HB5.out)).mono ?_); rintro e w7 ⟨rfl, hb7⟩
            go_wp2
            go_ret
            exact ⟨rfl, HB0.out.trans ((HB5.out.trans (hb7.mono HB5.out.size)).mono HB0.out.size)⟩
          · have HSz := trivial
            go_wp2_with fail; (with_reducible refine (HRa.out).mono ?_); rintro e w5 ⟨v5, rfl, ho5, hb5⟩
            obtain ⟨a5, n5, c5, rfl, hm5⟩ := ho5.shape
            obtain rfl := ho5.len
            have HB5 := Lib.hid (HBR.out.trans (hb5.mono HBR.out.size))
            simp only [List.length_nil]
            clear ho5 hb5
            skip
            go_wp2_with fail; (with_reducible refine (awake09 (HT.out.below HB5.out)).mono ?_); rintro e w7 ⟨rfl, hb7⟩
            go_wp2
            go_ret
            exact ⟨rfl, HB0.out.trans ((HB5.out.trans (hb7.mono HB5.out.size)).mono HB0.out.size)⟩
          · have HSz := trivial
            go_wp2_with fail; (with_reducible refine (HRa.out).mono ?_); rintro e w5 ⟨v5, rfl, ho5, hb5⟩
            obtain ⟨a5, n5, c5, rfl, hm5⟩ := ho5.shape
            obtain rfl := ho5.len
            have HB5 := Lib.hid (HBR.out.trans (hb5.mono HBR.out.size))
            simp only [List.length_nil]
            clear ho5 hb5
            skip
            go_wp2_with fail; (with_reducible refine (awake09 (HT.out.below HB5.out)).mono ?_); rintro e w7 ⟨rfl, hb7⟩
            go_wp2
            go_ret
            exact ⟨rfl, HB0.out.trans ((HB5.out.trans (hb7.mono HB5.out.size)).mono HB0.out.size)⟩
          · have HSz := trivial
            go_wp2_with fail; (with_reducible refine (HRa.out).mono ?_); rintro e w5 ⟨v5, rfl, ho5, hb5⟩
            obtain ⟨a5, n5, c5, rfl, hm5⟩ := ho5.shape
            obtain rfl := ho5.len
            have HB5 := Lib.hid (HBR.out.trans (hb5.mono HBR.out.size))
            simp only [List.length_nil]
            clear ho5 hb5
            skip
            go_wp2_with fail; (with_reducible refine (awake09 (HT.out.below HB5.out)).mono ?_); rintro e w7 ⟨rfl, hb7⟩
            go_wp2
            go_ret
            exact ⟨rfl, HB0.out.trans ((HB5.out.trans (hb7.mono HB5.out.size)).mono HB0.out.size)⟩
          · obtain ⟨j, rfl⟩ := Int.eq_ofNat_of_zero_le h2; rw [fsz_nat] at h5; have HSz : Hid (∀ W : World, Calls Tryd.prog 14 #[.int .i64 (j : Nat)] W fun e w1 => e = .returned (.int .i64 ((4 + (num j).length + j : Nat))) ∧ W = w1) := Lib.hid fun W => rsize_any j W (by omega); generalize 4 + (num j).length + j = sz at *
            go_wp2_with fail; (with_reducible refine (HRa.out).mono ?_); rintro e w5 ⟨v5, rfl, ho5, hb5⟩
            obtain ⟨a5, n5, c5, rfl, hm5⟩ := ho5.shape
            obtain rfl := ho5.len
            have HB5 := Lib.hid (HBR.out.trans (hb5.mono HBR.out.size))
            simp only [List.length_nil]
            clear ho5 hb5
            go_wp2_with fail; with_reducible refine (HSz.out _).mono ?_; rintro e w6 ⟨rfl, rfl⟩
            go_wp2_with fail; (with_reducible refine (awake09 (HT.out.below HB5.out)).mono ?_); rintro e w7 ⟨rfl, hb7⟩
            go_wp2
            go_ret
            exact ⟨rfl, HB0.out.trans ((HB5.out.trans (hb7.mono HB5.out.size)).mono HB0.out.size)⟩
        · obtain rfl : iz = 1 := by omega
          obtain ⟨i, rfl⟩ := Int.eq_ofNat_of_zero_le (show 0 ≤ ia by omega)
          obtain ⟨j, rfl⟩ := Int.eq_ofNat_of_zero_le (show 0 ≤ ib by omega)
          rw [fsz_nat] at hbad
          have hj4 : j ≤ 400 := by omega
          have hsz : Hid (∀ W : World, Calls Tryd.prog 14 #[.int .i64 (j : Nat)] W fun e w1 => e = .returned (.int .i64 ((4 + (num j).length + j : Nat))) ∧ W = w1) := Lib.hid fun W => rsize_any j W (by omega)
          have hzr : zread (pdv L st k) 1 (i : Nat) (fsz (j : Nat)) = ((L.drop i).take (4 + (num j).length + j), 0) := by
            rw [pdv_read1, fsz_nat, zrdb_is _ _ _ (by omega)]
          have HZr := Lib.hid hzr
          obtain ⟨s, hs⟩ : ∃ s, 4 + (num j).length + j = s := ⟨_, rfl⟩
          rw [hs] at hbad HZr hsz
          have hs5 : 4 ≤ s := by omega
          have his : i + s ≤ L.length := by omega
          have hilt : i < L.length := by omega
          clear hzr hbad hs
          have hIl : ((L.drop i).take s).length = s := by rw [List.length_take, List.length_drop]; omega
          obtain ⟨g, rfl, hcl, hcm⟩ : ∃ g, av = some ⟨g, 0, none⟩ ∧ L.length ≤ cv ∧ cv ≤ maxLen := by
            rcases ob_two9 HO.out with ⟨_, _, rfl⟩ | h
            · simp at hilt
            · exact h
          have hrb := rb_sub HO.out i s his
          have HRB := Lib.hid hrb
          have HNo := Lib.hid (fun (K : List (List UInt8)) => lread_not (K := K) (D := pdv L st k) (z := 1) (at' := (i : Nat)) (n := j) (by omega) HZr.out)
          have HWh := Lib.hid (fun (t : List UInt8) => lread_whole (t := t) (D := pdv L st k) (z := 1) (at' := (i : Nat)) (n := j) (by omega) HZr.out)
          have hrd : RdOut wr (lread (pdv L st k) 1 (i : Nat) (j : Nat)) = RdOut wr (lread (pdv L st k) 1 (i : Nat) (j : Nat)) := rfl
          clear hrb hrd HZr
          unfold maxLen at hcm
          generalize lread (pdv L st k) 1 (i : Nat) (j : Nat) = res at *
          generalize (L.drop i).take s = I at *
          have hic : i < cv := by omega
          have hscap : i + s ≤ cv := by omega
          obtain ⟨rb, er⟩ := res
          have hra : Calls Tryd.prog 22 #[.pointer (some ⟨q, 0, none⟩), .int .i64 1, .int .i64 (i : Nat), .int .i64 (j : Nat)] wr fun e w' => ∃ v, e = .returned (.tuple #[v, .int .i64 er]) ∧ OB w' wr.heap.size v rb ∧ Below wr.heap.size wr w' := HRA.out
          have HRa := Lib.hid hra
          have hIs : Hid (I.length = s) := Lib.hid hIl
          clear hra HRA HO hIl
          go_wp2_with fail; (with_reducible refine (HRa.out).mono ?_); rintro e w5 ⟨v5, rfl, ho5, hb5⟩
          obtain ⟨a5, n5, c5, rfl, hm5⟩ := ho5.shape
          obtain rfl := ho5.len
          have HB5 := Lib.hid (HBR.out.trans (hb5.mono HBR.out.size))
          have HR5 := Lib.hid ho5.reads
          have HI5 := Lib.hid (HRB.out.below hb5)
          clear ho5 hb5 HRa
          go_wp2_with fail; (with_reducible refine (hsz.out _).mono ?_); rintro e w6 ⟨rfl, hw6⟩
          subst hw6
          have hsc : Calls Tryd.prog 15 #[.slice (some ⟨g, i, none⟩) s (cv - i)] w5 (RefOut w5 I) := by
            have h1 := HI5.out
            have h2 : ∀ m, m = I.length → RB w5 (.slice (some ⟨g, i, none⟩) m (cv - i)) I → Calls Tryd.prog 15 #[.slice (some ⟨g, i, none⟩) m (cv - i)] w5 (RefOut w5 I) := fun m hm hr => by
              subst hm
              exact refscan hr (by rw [hIs.out]; omega)
            exact h2 s hIs.out.symm h1
          have HSc := Lib.hid hsc
          clear hsc
          go_wp2_with fail; (with_reducible refine (hsz.out _).mono ?_); rintro e w6 ⟨rfl, hw6⟩
          subst hw6
          go_wp2_with fail; (with_reducible refine (HSc.out).mono ?_); rintro e w6 ⟨xs, u, hS, rfl, hrow, hb6⟩
          have HB6 := Lib.hid (HB5.out.trans (hb6.mono HB5.out.size))
          have HR6 := Lib.hid (HR5.out.below hb6)
          have HS := Lib.hid hS
          have HRow := Lib.hid hrow
          have HA := Lib.hid (awake09 (HT.out.below HB6.out))
          obtain ⟨ua, uc, rfl, huc, _, hug⟩ := row_shape hrow.1
          clear hS hrow hb6 HSc HB5 HBR HR5 HI5 HRB hsz
          by_cases h1 : xs.length = 1
          · obtain ⟨x, rfl⟩ : ∃ x, xs = [x] := by
              match xs, h1 with
              | [x], _ => exact ⟨x, rfl⟩
            have hfl : (flR ([x].map RX.l)).length = (frB x.l).length := by simp [flR]
            have HFl := Lib.hid hfl
            rw [hfl]
            obtain ⟨g2, rfl, _⟩ := hug (by simp)
            have hcl := World.ownsRow.cells HRow.out.1 (g := g2) rfl 0 (.slice x.ao x.l.length x.c) (by simp [rxs, RX.v])
            rw [add_none] at hcl
            have HX := Lib.hid (HRow.out.2 x (List.mem_singleton_self x)).1
            clear hfl hug h1 HRow
            simp only [List.length_singleton] at huc ⊢
            have hS1 : Hid (ScanIs I [x.l]) := Lib.hid HS.out
            obtain ⟨fl, hfl⟩ : ∃ fl, (frB x.l).length = fl := ⟨_, rfl⟩
            have Hfl := Lib.hid hfl
            rw [hfl]
            clear hfl
            by_cases h2 : fl = s
            · have hd2 : ((fl : Int) == (s : Int)) = true := by rw [beq_iff_eq]; omega
              by_cases h3 : x.l.length = j
              · have hd3 : ((x.l.length : Int) == (j : Int)) = true := by rw [beq_iff_eq]; omega
                have hres := HWh.out x.l hS1.out (by rw [Hfl.out, hIs.out, h2]) h3
                obtain ⟨rfl, rfl⟩ := Prod.mk.inj hres
                have HSa := Lib.hid (same_b HR6.out HX.out.reads true (by simp))
                clear h2 h3 hres HNo HWh
                go_wp2_with fail; (with_reducible refine (HSa.out).mono ?_); rintro e w7 ⟨rfl, hb7⟩
                have HA7 := Lib.hid (awake09 (HT.out.below (HB6.out.trans (hb7.mono HB6.out.size))))
                go_wp2_with fail; (with_reducible refine (HA7.out).mono ?_); rintro e w8 ⟨rfl, hb8⟩
                go_wp2
                go_ret
                have h67 := HB6.out.trans (hb7.mono HB6.out.size)
                exact ⟨rfl, HB0.out.trans ((h67.trans (hb8.mono h67.size)).mono HB0.out.size)⟩
              · have hd3 : ((x.l.length : Int) == (j : Int)) = false := by rw [beq_eq_false_iff_ne]; omega
                have hres := HNo.out [x.l] hS1.out (.inr ⟨x.l, rfl, .inr h3⟩)
                obtain ⟨rfl, rfl⟩ := Prod.mk.inj hres
                clear h2 h3 hres HNo HWh
                go_wp2_with fail; (with_reducible refine (HA.out).mono ?_); rintro e w8 ⟨rfl, hb8⟩
                go_wp2
                go_ret
                exact ⟨rfl, HB0.out.trans ((HB6.out.trans (hb8.mono HB6.out.size)).mono HB0.out.size)⟩
            · have hd2 : ((fl : Int) == (s : Int)) = false := by rw [beq_eq_false_iff_ne]; omega
              have hres := HNo.out [x.l] hS1.out (.inr ⟨x.l, rfl, .inl (by rw [Hfl.out, hIs.out]; exact h2)⟩)
              obtain ⟨rfl, rfl⟩ := Prod.mk.inj hres
              clear h2 hres HNo HWh
              go_wp2_with fail; (with_reducible refine (HA.out).mono ?_); rintro e w8 ⟨rfl, hb8⟩
              go_wp2
              go_ret
              exact ⟨rfl, HB0.out.trans ((HB6.out.trans (hb8.mono HB6.out.size)).mono HB0.out.size)⟩
          · have hd1 : ((xs.length : Int) == 1) = false := by rw [beq_eq_false_iff_ne]; omega
            have hres := HNo.out _ HS.out (.inl (by rw [List.length_map]; exact h1))
            obtain ⟨rfl, rfl⟩ := Prod.mk.inj hres
            clear h1 hres HNo HWh hug
            go_wp2_with fail; (with_reducible refine (HA.out).mono ?_); rintro e w8 ⟨rfl, hb8⟩
            go_wp2
            go_ret
            exact ⟨rfl, HB0.out.trans ((HB6.out.trans (hb8.mono HB6.out.size)).mono HB0.out.size)⟩
end Go.Proofs.YtkflingpogokcaaDoor
