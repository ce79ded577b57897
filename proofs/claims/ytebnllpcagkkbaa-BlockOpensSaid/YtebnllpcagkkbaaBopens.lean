/- BlockOpens: its walk. -/
import Derived.Test.YtebnllpcagkkbaaBlk
namespace Go.Proofs.Ytebnllpcagkkbaa
open Go.RowKit
set_option linter.unusedVariables false
set_option linter.unusedSimpArgs false

set_option maxRecDepth 100000 in
set_option maxHeartbeats 4000000 in
theorem bopens_yes {w : World} {ao : Option Addr} {c : Nat} {b : List UInt8} (h : RB w (.slice ao b.length c) b) (hl : b.length ≤ maxLen) :
    Calls Try.prog 5 #[.slice ao b.length c] w fun e w' => e = .returned (.bool true) ∧ Below w.heap.size w w' := by
  have H := Lib.hid h
  unfold maxLen at hl
  by_cases h3 : b.length ≤ 3000
  case neg =>
    clear h
    go_enter Try.func5, Try.ntmps5
    go_wp2_with fail; (with_reducible refine (awake12 _).mono ?_); rintro e w1 ⟨rfl, hb1⟩
    go_wp2
    go_ret
    exact ⟨rfl, hb1⟩
  have hcp := refcopy h (by omega)
  have Hcp := Lib.hid hcp
  have hinf := infoPr
  obtain ⟨i0, hi, hzo, hz3, hzb⟩ := info_parts hinf
  have Hi := Lib.hid hi
  have Hz0 := Lib.hid hzo
  have Hz3 := Lib.hid hz3
  have Hzb := Lib.hid hzb
  clear h hcp hinf hi hzo hz3 hzb
  go_enter Try.func5, Try.ntmps5
  go_wp2_with fail; (with_reducible refine (Hcp.out).mono ?_); rintro e w1 ⟨v1, rfl, ho1, hb1⟩
  obtain ⟨a1, n1, c1, rfl, hcm⟩ := ho1.shape
  have hn1 := ho1.len
  subst hn1
  have hop := open_any ho1.reads (by omega) hcm
  have Hop := Lib.hid hop
  clear hop ho1 hcm
  go_wp2_with fail; (with_reducible refine (Hop.out).mono ?_); rintro e w2 hout
  obtain ⟨hb2, hout⟩ := hout
  have B2 := bnext hb1 hb2
  cases hob : openB b with
  | none =>
    rw [hob] at hout
    subst hout
    clear hob
    go_wp2_with fail; (with_reducible refine (awake12 _).mono ?_); rintro e w3 ⟨rfl, hb3⟩
    go_wp2
    go_ret
    exact ⟨rfl, bnext B2 hb3⟩
  | some L =>
    rw [hob] at hout
    obtain ⟨x, a2, c2, rfl, hx, _, hp⟩ := hout
    obtain ⟨hbb, hv1, hv2, hri, hL3, hLs⟩ := openB_some hob
    have HBB := Lib.hid hbb
    have HRI := Lib.hid hri
    have HLS := Lib.hid hLs
    have hbody := body_le_build (evB b) L
    rw [← hbb] at hbody
    have Hbody := Lib.hid hbody
    have HBK := Lib.hid (show BK w2 x a2 c2 L (evB b) from ⟨hx, hp⟩)
    clear hbb hri hLs hob hx hp hbody Hop Hcp
    generalize hE : evB b = ev at *
    have hLm : L.length ≤ 1000 := by omega
    have HLm : Hid (L.length ≤ maxLen) := Lib.hid (by unfold maxLen; omega)
    have hlen := blen_any HBK.out
    have Hlen := Lib.hid hlen
    clear hlen hE
    go_wp2_with fail; (with_reducible refine (Hlen.out).mono ?_); rintro e w3 ⟨rfl, rfl⟩
    go_wp2_with fail; (with_reducible refine (Hlen.out).mono ?_); rintro e w3 ⟨rfl, rfl⟩
    go_wp2
    go_loopw [5, 37] (fun v i wr => ∃ k : Nat, k ≤ L.length ∧ i = .int .i64 k ∧ wr.ownsRow w2.heap.size 35 2 v k (pairRow (L.take k)) ∧ Below w2.heap.size w2 wr) (fun _ i _ => L.length - (intOf i).toNat)
    case atStart => exact ⟨0, Nat.zero_le _, rfl, World.ownsRow_nil _ _ _ _, Below.refl _ _⟩
    case round =>
      obtain ⟨k, hk, rfl, ho, hb⟩ := hrel
      have HO := Lib.hid ho
      have HBr := Lib.hid (HBK.out.below hb)
      have hzr := hb.size
      clear ho
      by_cases hlt : k < L.length
      · have hat := bat_in HBr.out HLm.out k hlt
        have Hat := Lib.hid hat
        have Hts : Hid (L.take (k + 1) = L.take k ++ [pAt L k]) := Lib.hid (by rw [List.take_succ_eq_append_getElem hlt, pAt_get hlt])
        clear hat
        generalize pAt L k = y at *
        go_wp2_with fail; (with_reducible refine (Hat.out).mono ?_); rintro e w4 ⟨rfl, hb4⟩
        have HO4 := Lib.hid (row_past HO.out hb4 (Nat.le_refl _))
        have hB4 := bnext hb hb4
        have hz4 := hB4.size
        clear hb4
        go_wp2_with (at_builtin; go_loud (refine wpList_appN rfl (.tmp 40) (.tmp 44) 25 35 i0 (.agg #[.string ⟨#[]⟩, .string ⟨#[]⟩]) 2 32 Try.underlying25 Hi.out Hz0.out Hz3.out Hzb.out rfl (by decide) rfl w2.heap.size _ k (pairRow (L.take k)) rfl HO4.out #[.string y.key, .string y.val] 1 1 (by first | rfl | (simp; done) | (simp; rfl)) rfl (by intro u hu; simp at hu; rcases hu with rfl | rfl <;> rfl) (by unfold maxLen; omega) (by omega) (by first | exact hz4 | (simp; omega)) ?_); intro v5 w5 ho5 hold5 ha5)
        go_roundw
        case rel =>
          refine ⟨k + 1, by omega, by go_num, ?_, ?_⟩
          · rw [Hts.out, pairRow_append]; exact ho5
          · exact hB4.trans ((Chg.of_app ha5).below (fun j hj => (World.ownsRow.lt HO4.out j hj).1) hB4.size)
        case measure => simp [intOf]; omega
      · obtain rfl : k = L.length := by omega
        have ho := HO.out
        rw [List.take_of_length_le (Nat.le_refl _)] at ho
        obtain ⟨a', c', rfl, hp'⟩ := prs_of_row rfl ho HBK.out.2.2
        have HP' := Lib.hid hp'
        have hev := bevery_any HBr.out
        have Hev := Lib.hid hev
        have hre := ref12_any (c := c') hp' (by omega)
        have Hre := Lib.hid hre
        clear ho hp' HO hev hre
        go_wp2_with fail; (with_reducible refine (Hev.out).mono ?_); rintro e w4 ⟨rfl, rfl⟩
        go_wp2_with fail; (with_reducible refine (Hev.out).mono ?_); rintro e w4 ⟨rfl, rfl⟩
        go_wp2_with fail; (with_reducible refine (Hre.out).mono ?_); rintro e w5 ⟨a5, c5, rfl, hp5, hb5⟩
        have hor := rises_any (c := c5) hp5 HLm.out true HRI.out
        have Hor := Lib.hid hor
        have B5 := bnext hb hb5
        clear hor hp5
        go_wp2_with fail; (with_reducible refine (Hor.out).mono ?_); rintro e w6 ⟨rfl, hb6⟩
        have B6 := bnext B5 hb6
        have Hre6 := Lib.hid (ref12_any (c := c') (HP'.out.below (bnext hb5 hb6)) (show L.length ≤ 1000000 by omega))
        have Hev6 := fun W (hB : Below w2.heap.size w2 W) => bevery_any (HBK.out.below hB)
        have HEV := Lib.hid Hev6
        clear Hor Hre Hev6 hb5 hb6
        go_wp2_with fail; (with_reducible refine (Hre6.out).mono ?_); rintro e w7 ⟨a7, c7, rfl, hp7, hb7⟩
        have B7 := bnext B6 hb7
        have hbu := refbuild_any (c := c7) hp7 ev hv1 hv2 (by omega) (fun y hy => by have := HLS.out y hy; omega) (by have := Hbody.out; omega)
        rw [← HBB.out] at hbu
        have Hbu := Lib.hid hbu
        clear hbu hp7 hb7 Hre6
        go_wp2_with fail; (with_reducible refine (HEV.out _ B7).mono ?_); rintro e w8 ⟨rfl, rfl⟩
        go_wp2_with fail; (with_reducible refine (Hbu.out).mono ?_); rintro e w9 ⟨v9, rfl, hr9, hb9⟩
        have B9 := bnext B7 hb9
        have hsm := same_b hr9 (H.out.below (bnext B2 B9)) true (by simp)
        have Hsm := Lib.hid hsm
        clear hsm hr9 hb9 Hbu
        go_wp2_with fail; (with_reducible refine (Hsm.out).mono ?_); rintro e w10 ⟨rfl, hb10⟩
        have B10 := bnext B9 hb10
        go_wp2_with fail; (with_reducible refine (awake12 _).mono ?_); rintro e w11 ⟨rfl, hb11⟩
        go_wp2
        go_ret
        exact ⟨rfl, bnext B2 (bnext B10 hb11)⟩
end Go.Proofs.Ytebnllpcagkkbaa
