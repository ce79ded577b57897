/- SkipBetween: its walk. -/
import Derived.Test.YthpafhimmhacfaaSkQ
import Derived.Test.YthpafhimmhacfaaSkW
import Derived.Test.YthpafhimmhacfaaInts
namespace Go.Proofs.Ythpafhimmhacfaa
open Go.RowKit
set_option linter.unusedVariables false
set_option linter.unusedSimpArgs false

set_option maxRecDepth 100000 in
set_option maxHeartbeats 8000000 in
theorem between_walk {w : World} {a : Option Addr} {c : Nat} {l : List Int} (h : IR w a l) (hl : l.length ≤ maxLen) (k : Int) :
    Calls Try.prog 4 #[.slice a l.length c, .int .i64 k] w fun e w' => e = .returned (.bool true) ∧ Below w.heap.size w w' := by
  unfold maxLen at hl
  have H := Lib.hid h
  have Hne := Lib.hid (LI.new w)
  clear h
  go_enter Try.func4, Try.ntmps4
  go_wp2_with fail; (with_reducible refine (Hne.out).mono ?_); rintro e w1 ⟨p, F, rfl, hL, hb1⟩
  have HL := Lib.hid hL
  have HB1 := Lib.hid hb1
  clear hL hb1 Hne
  by_cases hl60 : l.length ≤ 60
  case neg =>
    have hl60 : 60 < l.length := by omega
    go_wp2_with fail; (with_reducible refine (awake05 _).mono ?_); rintro e w2 ⟨rfl, hb2⟩
    go_wp2
    go_ret
    exact ⟨rfl, HB1.out.trans (hb2.mono HB1.out.size)⟩
  go_wp2
  go_loopw [36] (fun i wr => ∃ (n : Nat) (L : List (E3 Int Int)) (F : Nat → Prop), n ≤ l.length ∧ i = .int .i64 n ∧ L.length ≤ n ∧ (∀ x ∈ l.take n, x ∈ L.map E3.k) ∧ LI wr w.heap.size p F L ∧ Below w.heap.size w wr) (fun i _ => l.length - (intOf i).toNat)
  case atStart => exact ⟨0, [], F, Nat.zero_le _, rfl, Nat.le_refl _, (fun x hx => by simp at hx), HL.out, HB1.out⟩
  case round =>
    obtain ⟨n, L, F2, hn, rfl, hLn, hmem, hT, hbr⟩ := hrel
    have HT := Lib.hid hT
    have HM := Lib.hid hmem
    clear hT hmem
    by_cases hlt : n < l.length
    · obtain ⟨b, off, rfl, f0, x1, x2⟩ := H.out.cell hbr n hlt
      have htk : l.take (n + 1) = l.take n ++ [l[n]] := List.take_succ_eq_append_getElem hlt
      generalize l[n] = x at *
      have HK := Lib.hid htk
      clear htk
      have hht : (1 : Int) + (n : Int) * 5 % 12 = ((1 + n * 5 % 12 : Nat) : Int) := by omega
      have hput := LI.put HT.out (by omega) x n (1 + n * 5 % 12) (by omega) (by omega)
      rw [← hht] at hput
      have Hput := Lib.hid hput
      clear hput hht
      go_wp2_with fail; (with_reducible refine (Hput.out).mono ?_); rintro e w3 ⟨rfl, ⟨F3, hL3, hF3⟩, hch, hb3⟩
      have hlen := putE_len_le (lt := ilt) L x n (1 + n * 5 % 12)
      have hmm := putE_keys (lt := ilt) L x n (1 + n * 5 % 12)
      generalize putE ilt L x n (1 + n * 5 % 12) = L3 at *
      have HL3 := Lib.hid hL3
      have HMM := Lib.hid hmm
      have HB3 := Lib.hid (hbr.trans hb3)
      clear hL3 hF3 hch hmm hb3
      go_wp2
      go_roundw
      case rel =>
        refine ⟨n + 1, L3, F3, by omega, by go_num, by omega, fun y hy => ?_, HL3.out, HB3.out⟩
        rw [HK.out, List.mem_append, List.mem_singleton] at hy
        exact (HMM.out y).2 (hy.elim (fun h => .inr (HM.out y h)) .inl)
      case measure => simp [intOf]; omega
    · have hnn : n = l.length := by omega
      have hall : ∀ x ∈ l, x ∈ L.map E3.k := fun x hx => HM.out x (by rw [hnn, List.take_of_length_le (Nat.le_refl _)]; exact hx)
      have HA := Lib.hid hall
      have hLl : L.length ≤ 999999 := by omega
      have Hfl := Lib.hid (LI.floor HT.out hLl k)
      have HBR := Lib.hid hbr
      clear hall hnn HM
      cases hf : hI L k with
      | true =>
        obtain ⟨hc, hk, hg, hfl, hce⟩ := has_tells hf
        rw [hfl, tkE_at hc, hk, show tbE L (cI L k) = true from tbE_true.2 hc] at Hfl
        have hB : tbE L (getE L k) = true := by rw [hg]; exact tbE_true.2 hc
        have hC1 : tkE L (ceilE L k) = k := by rw [hce, tkE_at hc, hk]
        have hC2 : tbE L (ceilE L k) = true := by rw [hce]; exact tbE_true.2 hc
        have HX := Lib.hid (And.intro hB (And.intro hC1 hC2))
        clear hB hC1 hC2 hce hfl hg hk hc hf
        go_wp2_with fail; (with_reducible refine (Hfl.out).mono ?_); rintro e w4 ⟨rfl, hb4⟩
        have hT4 : LI w4 _ _ _ _ := HT.out.below hb4
        have Hce := Lib.hid (LI.ceil hT4 hLl k)
        rw [HX.out.2.1, HX.out.2.2] at Hce
        have HT4 := Lib.hid hT4
        have HB4 := Lib.hid (bnext HBR.out hb4)
        clear hT4 hb4 hbr Hfl
        go_wp2_with fail; (with_reducible refine (Hce.out).mono ?_); rintro e w5 ⟨rfl, hb5⟩
        have hT5 : LI w5 _ _ _ _ := HT4.out.below hb5
        have Hge := Lib.hid (LI.get hT5 hLl k)
        rw [HX.out.1] at Hge
        have HB5 := Lib.hid (bnext HB4.out hb5)
        clear hT5 hb5 Hce
        go_wp2_with fail; (with_reducible refine (Hge.out).mono ?_); rintro e w6 ⟨rfl, hb6⟩
        have HB6 := Lib.hid (bnext HB5.out hb6)
        clear hb6
        go_wp2_with fail; (with_reducible refine (awake05 w6).mono ?_); rintro e w7 ⟨rfl, hb7⟩
        have HB7 := Lib.hid (bnext HB6.out hb7)
        clear hb7
        go_wp2
        go_ret
        exact ⟨rfl, HB7.out⟩
      | false =>
        have HX := Lib.hid (btw HT.out.rise l HA.out k hf)
        have HN := Lib.hid (btw_next HT.out.rise k hf)
        have HG := Lib.hid ((tb_get L k).trans hf)
        clear hf
        go_wp2_with fail; (with_reducible refine (Hfl.out).mono ?_); rintro e w4 ⟨rfl, hb4⟩
        have hT4 : LI w4 _ _ _ _ := HT.out.below hb4
        have Hce := Lib.hid (LI.ceil hT4 hLl k)
        have HT4 := Lib.hid hT4
        have HB4 := Lib.hid (bnext HBR.out hb4)
        clear hT4 hb4 hbr Hfl
        go_wp2_with fail; (with_reducible refine (Hce.out).mono ?_); rintro e w5 ⟨rfl, hb5⟩
        have hT5 : LI w5 _ _ _ _ := HT4.out.below hb5
        have Hge := Lib.hid (LI.get hT5 hLl k)
        rw [HG.out] at Hge
        have HT5 := Lib.hid hT5
        have HB5 := Lib.hid (bnext HB4.out hb5)
        clear hT5 hb5 Hce
        go_wp2_with fail; (with_reducible refine (Hge.out).mono ?_); rintro e w6 ⟨rfl, hb6⟩
        have HB6 := Lib.hid (bnext HB5.out hb6)
        have hT6 : LI w6 _ _ _ _ := HT5.out.below hb6
        have Hnx := Lib.hid (LI.next hT6 hLl (tkE L (floorE L k)))
        clear hb6 hT6 Hge HT HT4 HT5
        generalize tkE L (floorE L k) = low at *
        generalize tkE L (ceilE L k) = high at *
        generalize tbE L (floorE L k) = ba at *
        generalize tbE L (ceilE L k) = bb at *
        generalize tkE L (nextE L low) = nx at *
        generalize tbE L (nextE L low) = bn at *
        generalize tvE L (nextE L low) = nv at *
        generalize tvE L (floorE L k) = v1 at *
        generalize tvE L (ceilE L k) = v2 at *
        generalize tvE L (getE L k) = v3 at *
        have hbw := HX.out
        cases ba <;> cases bb
        all_goals
          have ha1 := hbw.a1
          have hb1 := hbw.b1
          simp only [Bool.false_eq_true, false_implies, forall_const] at ha1 hb1
          go_wp2
          go_loopw [104] (fun i wr => ∃ n : Nat, n ≤ l.length ∧ i = .int .i64 n ∧ wr = w6) (fun i _ => l.length - (intOf i).toNat)
          case atStart => exact ⟨0, Nat.zero_le _, rfl, rfl⟩
          case round =>
            obtain ⟨n, hn, rfl, rfl⟩ := hrel
            by_cases hlt : n < l.length
            · obtain ⟨b, off, rfl, f0, x1, x2⟩ := H.out.cell HB6.out n hlt
              have hxm : l[n] ∈ l := List.getElem_mem hlt
              have hne := hbw.ne _ hxm
              have h1 := hbw.a2 _ hxm
              have h2 := hbw.b2 _ hxm
              have h3 := hbw.a3 _ hxm
              have h4 := hbw.b3 _ hxm
              simp only [Bool.false_eq_true, false_implies, forall_const] at h1 h2 h3 h4
              generalize l[n] = x at *
              clear hxm
              rcases Int.lt_or_gt_of_ne hne with hlt2 | hgt2
              all_goals
                first
                | (exfalso; omega)
                | (clear hne
                   (try have h1 := h1 hlt2)
                   (try have h2 := h2 hgt2)
                   go_wp2
                   go_roundw
                   case rel => exact ⟨n + 1, by omega, by go_num, by trivial⟩
                   case measure => simp [intOf]; omega)
            · clear hbw
              first
              | (have hn12 := HN.out True.intro
                 obtain ⟨hn1, hn2⟩ := hn12
                 rw [hn1, hn2] at Hnx
                 clear hn1 hn2)
              | skip
              go_wp2_with fail; (with_reducible refine (Hnx.out).mono ?_); rintro e w7 ⟨rfl, hb7⟩
              have HB7 := Lib.hid (bnext HB6.out hb7)
              clear hb7
              go_wp2_with fail; (with_reducible refine (awake05 w7).mono ?_); rintro e w8 ⟨rfl, hb8⟩
              have HB8 := Lib.hid (bnext HB7.out hb8)
              clear hb8
              go_wp2
              go_ret
              exact ⟨rfl, HB8.out⟩
end Go.Proofs.Ythpafhimmhacfaa
