/- ZoneReads: its walk. -/
import Derived.Test.YtijgbciaifdbeaaAw07
import Derived.Test.YtijgbciaifdbeaaInts
import Derived.Test.YtijgbciaifdbeaaLess
namespace Go.Proofs.Ytijgbciaifdbeaa
open Go.RowKit
set_option linter.unusedVariables false
set_option linter.unusedSimpArgs false

def rdv (L : List UInt8) (st k : Nat) : Dv := ⟨1, 2000, 1, [⟨st, L, 0⟩], -1, k, false⟩
theorem rdv_app (L b : List UInt8) (st k : Nat) (h2 : st = 2 ↔ L.length = 2000) (hL : L.length ≤ 2000) :
    (L.length = 2000 → zapp (rdv L st k) 0 b = (rdv L st k, 71)) ∧ (L.length ≠ 2000 → 2000 < L.length + b.length → zapp (rdv L st k) 0 b = (rdv L st k, 73)) ∧
      (L.length ≠ 2000 → L.length + b.length ≤ 2000 → zapp (rdv L st k) 0 b = (rdv (L ++ b) (if L.length + b.length = 2000 then 2 else 1) (k + 1), 0)) := by
  have e : zapp (rdv L st k) 0 b = zappA (rdv L st k) 0 ⟨st, L, 0⟩ b := zapp_in (D := rdv L st k) (k := 0) rfl Nat.zero_lt_one Nat.zero_lt_one b
  have hz : ¬ (st = 0 ∧ (rdv L st k).op ≤ zopn (rdv L st k).A) := by
    rintro ⟨rfl, h⟩
    have : zopn (rdv L 0 k).A = 0 := rfl
    rw [this] at h
    exact absurd (show (1 : Nat) ≤ 0 from h) (by decide)
  rw [e]
  unfold zappA
  refine ⟨fun h => ?_, fun h h3 => ?_, fun h h3 => ?_⟩
  · rw [if_pos (h2.2 h)]
  · rw [if_neg (fun e => h (h2.1 e)), if_neg hz, if_pos (show (rdv L st k).size < L.length + b.length from h3)]
  · rw [if_neg (fun e => h (h2.1 e)), if_neg hz, if_neg (show ¬ (rdv L st k).size < L.length + b.length from Nat.not_lt.2 h3)]
    rfl
theorem rdv_read (L : List UInt8) (st k : Nat) (i j : Int) : zread (rdv L st k) 0 i j = zrdb L i j := zread_in (D := rdv L st k) (m := 0) rfl Nat.zero_lt_one Nat.zero_lt_one i j
theorem rdv_pt (L : List UInt8) (st k : Nat) : zpt (rdv L st k) 0 = (L.length : Nat) := by
  unfold zpt
  rw [dif_pos ⟨by decide, Nat.zero_lt_one⟩]
  rfl
theorem ob_two {w : World} {B : Nat} {av : Option Addr} {cv : Nat} {l : List UInt8} (h : OB w B (.slice av l.length cv) l) : (av = none ∧ cv = 0 ∧ l = []) ∨ ∃ g, av = some ⟨g, 0, none⟩ ∧ l.length ≤ cv ∧ cv ≤ maxLen := by
  rcases h.2 with ⟨h1, h2⟩ | ⟨g, cap, cur, hv, _, _, hc, hm, _⟩
  · simp only [Value.slice.injEq] at h1
    exact .inl ⟨h1.1, h1.2.2, List.eq_nil_of_length_eq_zero h2⟩
  · simp only [Value.slice.injEq] at hv
    obtain ⟨rfl, _, rfl⟩ := hv
    exact .inr ⟨g, rfl, hc, hm⟩
set_option maxRecDepth 100000 in
set_option maxHeartbeats 8000000 in
theorem reads_walk {w : World} {a : Option Addr} {c : Nat} {l : List (Value × List UInt8)} (h : BSs w a l) (hl : l.length ≤ maxLen) (ia ib : Int) :
    Calls Try.prog 3 #[.slice a l.length c, .int .i64 ia, .int .i64 ib] w fun e w' => e = .returned (.bool true) ∧ Below w.heap.size w w' := by
  unfold maxLen at hl
  have H := Lib.hid h
  have hn : Calls Try.prog 7 #[.agg #[.int .i64 1, .int .i64 2000, .int .i64 1]] w fun e w' => ∃ p F, e = .returned (.pointer (some ⟨p, 0, none⟩)) ∧ DI w' w.heap.size p F (rdv [] 0 0) ∧ Below w.heap.size w w' := DI.new w 1 2000 1 (by decide)
  have HN := Lib.hid hn
  clear h hn
  go_enter Try.func3, Try.ntmps3
  go_wp2_with fail; (with_reducible refine (HN.out).mono ?_); rintro e w1 ⟨p, F1, rfl, hD1, hb1⟩
  have HD1 := Lib.hid hD1
  have HB1 := Lib.hid hb1
  clear hD1 hb1 HN
  by_cases hlc : l.length ≤ 30
  case neg =>
    go_wp2_with fail; (with_reducible refine (awake07 _).mono ?_); rintro e w3 ⟨rfl, hb3⟩
    go_wp2
    go_ret
    exact ⟨rfl, bnext HB1.out hb3⟩
  go_wp2
  go_loopw [8, 31] (fun v i wr => ∃ (n : Nat) (L : List UInt8) (st k : Nat) (F : Nat → Prop), n ≤ l.length ∧ i = .int .i64 n ∧ OB wr w.heap.size v L ∧ L.length ≤ 2000 ∧ (st = 2 ↔ L.length = 2000) ∧ k ≤ n ∧ DI wr w.heap.size p F (rdv L st k) ∧ (∀ q, v.ownBlock = some q → ¬ F q) ∧ Below w.heap.size w wr) (fun _ i _ => l.length - (intOf i).toNat)
  case atStart => exact ⟨0, [], 0, 0, F1, Nat.zero_le _, rfl, OB.nil _ _, by simp, by simp, Nat.le_refl _, HD1.out, fun q hq => by simp [Value.ownBlock] at hq, HB1.out⟩
  case round =>
    clear HD1 HB1
    obtain ⟨n, L, st, k, F, hn, rfl, hO, hL, hst, hk, hD, hap, hbr⟩ := hrel
    obtain ⟨av, cv, rfl, hcv⟩ := hO.reads.shape
    have HO := Lib.hid hO
    have HST := Lib.hid hst
    have HD := Lib.hid hD
    have HAP := Lib.hid hap
    clear hO hst hD hap
    by_cases hlt : n < l.length
    · obtain ⟨b, off, ao, cc, rfl, hve, f0, hrb, _⟩ := H.out.cell hbr n hlt
      have hrw := (H.out.2 _ (List.getElem_mem hlt)).1
      rw [hve] at hrw
      have HRW := Lib.hid hrw
      clear hve hrw
      generalize l[n].2 = m at *
      have HBR := Lib.hid hbr
      by_cases h300 : 300 < m.length
      · go_wp2_with fail; (with_reducible refine (awake07 _).mono ?_); rintro e w3 ⟨rfl, hb3⟩
        go_wp2
        go_ret
        exact ⟨rfl, bnext HBR.out hb3⟩
      · obtain ⟨e71, e73, e00⟩ := rdv_app L m st k HST.out hL
        have hkb : (rdv L st k).done < 4611686018427387904 := by show k < _; omega
        have hm3 : m.length ≤ 1000000 := by omega
        have h3 : L.length = 2000 ∨ (L.length ≠ 2000 ∧ 2000 < L.length + m.length) ∨ (L.length ≠ 2000 ∧ L.length + m.length ≤ 2000) := by omega
        rcases h3 with h4 | ⟨h4, h5⟩ | ⟨h4, h5⟩
        · have Hap := Lib.hid (HD.out.append hkb 0 hrb hm3 (e71 h4))
          have hf : (((L.length : Nat) : Int) == 2000) = true := by rw [beq_iff_eq]; omega
          clear e71 e73 e00 h4 hbr hrb
          go_wp2_with fail; (with_reducible refine (Hap.out).mono ?_); rintro e w4 ⟨rfl, ho4⟩
          have hb4 := ho4.below HD.out
          obtain ⟨⟨F4, hD4, hF4⟩, hc4⟩ := ho4
          have HX : Hid (OB w4 w.heap.size (.slice av L.length cv) L ∧ DI w4 w.heap.size p F4 (rdv L st k) ∧ (∀ q, (Value.slice av L.length cv).ownBlock = some q → ¬ F4 q) ∧ Below w.heap.size w w4) := Lib.hid ⟨HO.out.chg hc4 HAP.out, hD4, fun q hq hf4 => by
            rcases hF4 q hf4 with h | h
            · exact HAP.out q hq h
            · have := (HO.out.lt hq).2; omega, HBR.out.trans hb4⟩
          clear hD4 hF4 hc4 hb4 HBR
          go_wp2
          go_roundw
          case rel => exact ⟨n + 1, L, st, k, F4, by omega, by go_num, HX.out.1, hL, HST.out, by omega, HX.out.2.1, HX.out.2.2.1, HX.out.2.2.2⟩
          case measure => simp [intOf]; omega
        · have Hap := Lib.hid (HD.out.append hkb 0 hrb hm3 (e73 h4 h5))
          have hf : (((L.length : Nat) : Int) == 2000) = false := by rw [beq_eq_false_iff_ne]; omega
          have hg : ¬ ((m.length : Int) ≤ 2000 - (L.length : Int)) := by omega
          clear e71 e73 e00 h4 hbr hrb
          go_wp2_with fail; (with_reducible refine (Hap.out).mono ?_); rintro e w4 ⟨rfl, ho4⟩
          have hb4 := ho4.below HD.out
          obtain ⟨⟨F4, hD4, hF4⟩, hc4⟩ := ho4
          have HX : Hid (OB w4 w.heap.size (.slice av L.length cv) L ∧ DI w4 w.heap.size p F4 (rdv L st k) ∧ (∀ q, (Value.slice av L.length cv).ownBlock = some q → ¬ F4 q) ∧ Below w.heap.size w w4) := Lib.hid ⟨HO.out.chg hc4 HAP.out, hD4, fun q hq hf4 => by
            rcases hF4 q hf4 with h | h
            · exact HAP.out q hq h
            · have := (HO.out.lt hq).2; omega, HBR.out.trans hb4⟩
          clear hD4 hF4 hc4 hb4 HBR
          go_wp2
          go_roundw
          case rel => exact ⟨n + 1, L, st, k, F4, by omega, by go_num, HX.out.1, hL, HST.out, by omega, HX.out.2.1, HX.out.2.2.1, HX.out.2.2.2⟩
          case measure => simp [intOf]; omega
        · have Hap := Lib.hid (HD.out.append hkb 0 hrb hm3 (e00 h4 h5))
          have hf : (((L.length : Nat) : Int) == 2000) = false := by rw [beq_eq_false_iff_ne]; omega
          have hg : (m.length : Int) ≤ 2000 - (L.length : Int) := by omega
          have HRB := Lib.hid hrb
          clear e71 e73 e00 h4 hbr hrb
          go_wp2_with fail; (with_reducible refine (Hap.out).mono ?_); rintro e w4 ⟨rfl, ho4⟩
          have hb4 := ho4.below HD.out
          obtain ⟨⟨F4, hD4, hF4⟩, hc4⟩ := ho4
          have hO4 := HO.out.chg hc4 HAP.out
          have hap4 : ∀ q, (Value.slice av L.length cv).ownBlock = some q → ¬ F4 q := fun q hq hf4 => by
            rcases hF4 q hf4 with h | h
            · exact HAP.out q hq h
            · have := (HO.out.lt hq).2; omega
          have HBB : Hid (Below w.heap.size w w4) := Lib.hid (HBR.out.trans hb4)
          have HR4 := Lib.hid (HRW.out.below HBB.out)
          have HO4 := Lib.hid hO4
          have HAP4 := Lib.hid hap4
          have HD4 := Lib.hid hD4
          have hlen4 : L.length + m.length ≤ 140737488355328 := by omega
          have hbz4 := HBB.out.size
          have hlen2 : (L ++ m).length = L.length + m.length := List.length_append
          have Hlen2 := Lib.hid hlen2
          have HST2 : Hid ((if L.length + m.length = 2000 then 2 else 1) = 2 ↔ (L ++ m).length = 2000) := Lib.hid (by rw [hlen2]; split <;> simp [*])
          clear hlen2 hO4 hap4 hD4 hF4 hc4 hb4 HBR f0 HRW
          have HY : Hid (∀ v1 w5, OB w5 w.heap.size v1 (L ++ m) → App w4 w5 (.slice av L.length cv) v1 → OB w5 w.heap.size v1 (L ++ m) ∧ DI w5 w.heap.size p F4 (rdv (L ++ m) (if L.length + m.length = 2000 then 2 else 1) (k + 1)) ∧ (∀ q, v1.ownBlock = some q → ¬ F4 q) ∧ Below w.heap.size w w5) := Lib.hid fun v1 w5 ho1 ha1 => by
            refine ⟨ho1, HD4.out.chg (Chg.of_app ha1) (fun q hq e => HAP4.out q e hq), fun q hq hf => ?_, HBB.out.trans ((Chg.of_app ha1).below (fun q hq => (HO4.out.lt hq).1) hbz4)⟩
            rcases ha1.lies with e | ⟨g, e, hg⟩
            · exact HAP4.out q (by rw [← e]; exact hq) hf
            · rw [e] at hq; cases hq; have := (HD4.out.ge _ hf).2; omega
          go_wp2_with (at_builtin; go_loud (refine wpList_appr rfl (.tmp 60) (.tmp 61) rfl w.heap.size _ L rfl HO4.out _ m rfl HR4.out hlen4 hbz4 ?_); intro v1 w5 ho1 hold ha1; have HX := Lib.hid (HY.out _ _ ho1 ha1); clear ho1 hold ha1)
          go_roundw
          case rel => exact ⟨n + 1, L ++ m, _, k + 1, F4, by omega, by go_num, HX.out.1, by rw [Hlen2.out]; exact h5, HST2.out, by omega, HX.out.2.1, HX.out.2.2.1, HX.out.2.2.2⟩
          case measure => simp [intOf]; omega
    · have Hrd := Lib.hid (HD.out.read 0 ia ib)
      rw [rdv_read] at Hrd
      have Hpt : Hid (∀ W, Below _ _ W → _) := Lib.hid fun W hW => (HD.out.below hW).pointer 0
      rw [rdv_pt] at Hpt
      have HBR := Lib.hid hbr
      have hL2 := hL
      clear hbr HD HAP HST
      by_cases hbad : ia < 0 ∨ ib < 0 ∨ (L.length : Int) < ia ∨ (L.length : Int) - ia < ib
      · have e : zrdb L ia ib = ([], 70) := if_pos hbad
        rw [e] at Hrd
        have h4 : ia < 0 ∨ (0 ≤ ia ∧ ib < 0) ∨ (0 ≤ ia ∧ 0 ≤ ib ∧ (L.length : Int) < ia) ∨ (0 ≤ ia ∧ 0 ≤ ib ∧ ia ≤ (L.length : Int) ∧ (L.length : Int) - ia < ib) := by omega
        clear e hbad Hpt HO
        generalize L.length = bl at *
        rcases h4 with h1 | ⟨h1, h2⟩ | ⟨h1, h2, h3⟩ | ⟨h1, h2, h3, h4⟩
        all_goals
          go_wp2_with fail; (with_reducible refine (Hrd.out).mono ?_); rintro e w5 ⟨v2, rfl, ho5, hb5⟩
          obtain ⟨a2, c2, rfl, _⟩ := ho5.reads.shape
          have HB5 := Lib.hid (bnext HBR.out hb5)
          simp only [List.length_nil]
          clear ho5 hb5
          go_wp2_with fail; (with_reducible refine (awake07 _).mono ?_); rintro e w7 ⟨rfl, hb7⟩
          go_wp2
          go_ret
          exact ⟨rfl, bnext HB5.out hb7⟩
      · obtain ⟨i, rfl⟩ := Int.eq_ofNat_of_zero_le (show 0 ≤ ia by omega)
        obtain ⟨j, rfl⟩ := Int.eq_ofNat_of_zero_le (show 0 ≤ ib by omega)
        have e : zrdb L (i : Nat) (j : Nat) = ((L.drop i).take j, 0) := if_neg hbad
        rw [e] at Hrd
        have hij : i + j ≤ L.length := by omega
        have el : ((L.drop i).take j).length = j := by rw [List.length_take, List.length_drop]; omega
        clear e hbad
        rcases ob_two HO.out with ⟨rfl, rfl, rfl⟩ | ⟨g, rfl, hcl, hcm⟩
        · simp only [List.length_nil] at hij
          obtain rfl : i = 0 := by omega
          obtain rfl : j = 0 := by omega
          rw [show ((0 : Nat) : Int) = 0 from rfl] at Hrd
          go_wp2_with fail; (with_reducible refine (Hrd.out).mono ?_); rintro e w5 ⟨v2, rfl, ho5, hb5⟩
          obtain ⟨a2, c2, rfl, _⟩ := ho5.reads.shape
          have hO5 := HO.out.chg (F := fun _ => False) (Chg.of_below hb5) (fun _ _ h => h)
          have Hs := Lib.hid (same_b ho5.reads (RB.nil _ none 0) true (by simp))
          have HB5 := Lib.hid hb5
          have HB6 := Lib.hid (bnext HBR.out hb5)
          simp only [el] at Hs ⊢
          clear ho5 hO5 hb5
          go_wp2_with fail; (with_reducible refine (Hs.out).mono ?_); rintro e w6 ⟨rfl, hb6⟩
          go_wp2_with fail; (with_reducible refine (Hpt.out _ (bnext HB5.out hb6)).mono ?_); rintro e w6 ⟨rfl, rfl⟩
          go_wp2_with fail; (with_reducible refine (awake07 _).mono ?_); rintro e w7 ⟨rfl, hb7⟩
          go_wp2
          go_ret
          exact ⟨rfl, bnext (bnext HB6.out hb6) hb7⟩
        · unfold maxLen at hcm
          rcases Nat.lt_or_ge i cv with hci | hci
          · clear hcv
            go_wp2_with fail; (with_reducible refine (Hrd.out).mono ?_); rintro e w5 ⟨v2, rfl, ho5, hb5⟩
            obtain ⟨a2, c2, rfl, _⟩ := ho5.reads.shape
            have hO5 := HO.out.chg (F := fun _ => False) (Chg.of_below hb5) (fun _ _ h => h)
            have Hs := Lib.hid (same_b ho5.reads (rb_sub hO5 i j hij) true (by simp))
            have HB5 := Lib.hid hb5
            have HB6 := Lib.hid (bnext HBR.out hb5)
            simp only [el] at Hs ⊢
            clear ho5 hO5 hb5
            go_wp2_with fail; (with_reducible refine (Hs.out).mono ?_); rintro e w6 ⟨rfl, hb6⟩
            go_wp2_with fail; (with_reducible refine (Hpt.out _ (bnext HB5.out hb6)).mono ?_); rintro e w6 ⟨rfl, rfl⟩
            go_wp2_with fail; (with_reducible refine (awake07 _).mono ?_); rintro e w7 ⟨rfl, hb7⟩
            go_wp2
            go_ret
            exact ⟨rfl, bnext (bnext HB6.out hb6) hb7⟩
          · obtain rfl : cv = i := by omega
            obtain rfl : j = 0 := by omega
            rw [show ((0 : Nat) : Int) = 0 from rfl] at Hrd
            go_wp2_with fail; (with_reducible refine (Hrd.out).mono ?_); rintro e w5 ⟨v2, rfl, ho5, hb5⟩
            obtain ⟨a2, c2, rfl, _⟩ := ho5.reads.shape
            have hO5 := HO.out.chg (F := fun _ => False) (Chg.of_below hb5) (fun _ _ h => h)
            have Hs := Lib.hid (same_b ho5.reads (RB.nil _ (some ⟨g, 0, none⟩) 0) true (by simp))
            have HB5 := Lib.hid hb5
            have HB6 := Lib.hid (bnext HBR.out hb5)
            simp only [el] at Hs ⊢
            clear ho5 hO5 hb5
            go_wp2_with fail; (with_reducible refine (Hs.out).mono ?_); rintro e w6 ⟨rfl, hb6⟩
            go_wp2_with fail; (with_reducible refine (Hpt.out _ (bnext HB5.out hb6)).mono ?_); rintro e w6 ⟨rfl, rfl⟩
            go_wp2_with fail; (with_reducible refine (awake07 _).mono ?_); rintro e w7 ⟨rfl, hb7⟩
            go_wp2
            go_ret
            exact ⟨rfl, bnext (bnext HB6.out hb6) hb7⟩
end Go.Proofs.Ytijgbciaifdbeaa
