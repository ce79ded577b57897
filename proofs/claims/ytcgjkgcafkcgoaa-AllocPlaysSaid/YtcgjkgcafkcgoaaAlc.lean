/- AllocRebuilds: its walk. -/
import Derived.Test.YtcgjkgcafkcgoaaAlb
import Derived.Test.YtcgjkgcafkcgoaaZop
namespace Go.Proofs.Ytcgjkgcafkcgoaa
open Go.RowKit
set_option linter.unusedVariables false
set_option linter.unusedSimpArgs false

theorem roleAt_zero {R : List Int} {z : Int} (h : roleAt R z = 0) : ∃ n : Nat, ∃ hn : n < R.length, z = n ∧ R[n] = 0 := by
  unfold roleAt at h
  by_cases hz : 0 ≤ z ∧ z < R.length
  · rw [if_pos hz] at h
    have hn : z.toNat < R.length := by omega
    refine ⟨z.toNat, hn, by omega, ?_⟩
    rw [List.getD, List.getElem?_eq_getElem hn] at h
    exact h
  · rw [if_neg hz] at h; omega
theorem AOut.keepB {w w' : World} {B p d b n : Nat} {H : Nat → Prop} {R Q : List Int} {D : Dv} {l : List Bool} (h : AOut w B p d H R Q D w') (hb : BR w B b n l) (hn : ¬ H b) : ∃ H', AT w' B p d H' R Q D ∧ BR w' B b n l ∧ ¬ H' b := by
  obtain ⟨⟨H', hA, hf⟩, hc⟩ := h
  refine ⟨H', hA, hb.chg hc hn, fun hh => ?_⟩
  rcases hf b hh with h1 | h1
  · exact hn h1
  · have := hb.lt.2; omega
set_option maxRecDepth 100000 in
set_option maxHeartbeats 16000000 in
theorem rebuilds_walk {w : World} {a1 a2 : Option Addr} {c1 c2 : Nat} {l1 l2 : List Int} (h1 : KZ w a1 l1) (h2 : KZ w a2 l2) (hl1 : l1.length ≤ maxLen) (hl2 : l2.length ≤ maxLen) (zs : Int) :
    Calls Try.prog 6 #[.int .i64 zs, .slice a1 l1.length c1, .slice a2 l2.length c2] w fun e w' => e = .returned (.bool true) ∧ Below w.heap.size w w' := by
  unfold maxLen at hl1 hl2
  have HK1 := Lib.hid h1
  have HK2 := Lib.hid h2
  clear h1 h2
  by_cases hzs : zs < 1 ∨ 64 < zs
  · have Hn := Lib.hid (alnew_bad zs w hzs)
    have Hd := Lib.hid (aldev_nil zs w hzs)
    rcases hzs with h1 | h1
    all_goals
      go_enter Try.func6, Try.ntmps6
      go_wp2_with fail; (with_reducible refine (Hn.out).mono ?_); rintro e w1 ⟨rfl, rfl⟩
      go_wp2_with fail; (with_reducible refine (Hd.out).mono ?_); rintro e w2 ⟨rfl, hb2⟩
      go_wp2_with fail; (with_reducible refine (alawake _).mono ?_); rintro e w3 ⟨rfl, hb3⟩
      go_wp2
      go_ret
      exact ⟨rfl, bnext hb2 hb3⟩
  · obtain ⟨N, rfl⟩ := Int.eq_ofNat_of_zero_le (show 0 ≤ zs by omega)
    have hN1 : 1 ≤ N := by omega
    have hN2 : N ≤ 64 := by omega
    clear hzs
    have Hn := Lib.hid (alnew N w hN1 hN2)
    go_enter Try.func6, Try.ntmps6
    go_wp2_with fail; (with_reducible refine (Hn.out).mono ?_); rintro e w1 ⟨p, g, rfl, hT1, hb1⟩
    have HT1 := Lib.hid hT1
    have HB1 := Lib.hid hb1
    clear hT1 hb1 Hn
    go_wp2_with fail; (with_reducible refine (aldev N _ hN1 hN2).mono ?_); rintro e w2 ⟨d, G, rfl, hD2, hb2⟩
    have hat := AT.new HT1.out hb2 hD2
    have HB2 := Lib.hid (bnext HB1.out hb2)
    obtain ⟨H0, hA0⟩ := hat
    have HA0 := Lib.hid hA0
    clear HT1 HB1 hb2 hD2 hA0
    by_cases hlc : l1.length ≤ 80 ∧ l2.length ≤ 80
    case neg =>
      have h3 : 80 < l1.length ∨ (l1.length ≤ 80 ∧ 80 < l2.length) := by omega
      clear hlc
      rcases h3 with h4 | ⟨h3, h4⟩
      all_goals
        go_wp2_with fail; (with_reducible refine (alawake _).mono ?_); rintro e w3 ⟨rfl, hb3⟩
        go_wp2
        go_ret
        exact ⟨rfl, bnext HB2.out hb3⟩
    obtain ⟨hlc1, hlc2⟩ := hlc
    have hbz2 := HB2.out.size
    go_wp2_with (at_make; go_loud (refine wpList_mkbo rfl (.tmp 54) (.tmp 54) rfl w.heap.size N rfl rfl (by omega) hbz2 ?_); intro w3 ho3 hb3; have HO3 : Hid (BR w3 w.heap.size w2.heap.size N (List.replicate N false)) := Lib.hid ho3; have HA3 := Lib.hid (HA0.out.below hb3); have HB3 := Lib.hid (bnext HB2.out hb3); have HN3 : Hid (¬ H0 w2.heap.size) := Lib.hid (fun hh => by have := (HA0.out.ge _ hh).2; omega); clear ho3 hb3 HA0 HB2)
    generalize w2.heap.size = bb at *
    have HI0 : Hid (HInv N (List.replicate N 0) (List.replicate N false)) := Lib.hid ⟨by simp, by simp, fun i hi => .inl (by simp), fun i hi h2 => by simp⟩
    go_loopw [58] (fun i wr => ∃ (m : Nat) (H : Nat → Prop) (R : List Int) (hs : List Bool), m ≤ l1.length ∧ i = .int .i64 m ∧ AT wr w.heap.size p d H R [] (dv0 N 16 N) ∧ HInv N R hs ∧ BR wr w.heap.size bb N hs ∧ ¬ H bb ∧ Below w.heap.size w wr) (fun i _ => l1.length - (intOf i).toNat)
    case atStart => exact ⟨0, H0, _, _, Nat.zero_le _, rfl, HA3.out, HI0.out, HO3.out, HN3.out, HB3.out⟩
    case round =>
      clear HA3 HI0 HO3 HN3 HB3
      obtain ⟨m, H, R, hs, hm, rfl, hA, hI, hO, hN, hbr⟩ := hrel
      have HA := Lib.hid hA
      have HI := Lib.hid hI
      have HO := Lib.hid hO
      have HN := Lib.hid hN
      have HBR := Lib.hid hbr
      clear hA hI hO hN
      by_cases hlt : m < l1.length
      · obtain ⟨kb, ko, rfl, hkc⟩ := (HK1.out.below hbr) (by omega)
        have f0 := hkc m hlt
        clear hkc hbr
        generalize l1[m] = z at *
        by_cases hz : roleAt R z = 0
        · obtain ⟨q, hq, rfl, hq0⟩ := roleAt_zero hz
          have Hre := Lib.hid (HA.out.own q (1 + (m : Int) % 5) hq hq0 (by omega))
          have HI2 := Lib.hid (HI.out.put q (1 + (m : Int) % 5) (by omega))
          have hqN : q < N := by rw [← HI.out.len]; exact hq
          have hqs : q < hs.length := by rw [HI.out.hl]; exact hqN
          clear hz hq0
          go_wp2_with fail; (with_reducible refine (Hre.out).mono ?_); rintro e w3 ⟨rfl, ho3⟩
          have hb3 := ho3.below HA.out.ge HA.out.room
          obtain ⟨H3, hA3, hO3, hN3⟩ := ho3.keepB HO.out HN.out
          have k0 := hO3.cell q hqs
          have k1 := hO3.fz q
          have hset := hO3.set q true
          have hA4 := hA3.chg (Chg.set w3 bb q (.bool true)) (fun k hk e => hN3 (by rw [← e]; exact hk))
          have hlow := hO3.lt.1
          have HX : Hid (AT (w3.setCell ⟨bb, q, none⟩ (.bool true)) w.heap.size p d H3 (R.set q (1 + (m : Int) % 5)) [] (dv0 N 16 N) ∧ BR (w3.setCell ⟨bb, q, none⟩ (.bool true)) w.heap.size bb N (hs.set q true) ∧ ¬ H3 bb ∧ Below w.heap.size w (w3.setCell ⟨bb, q, none⟩ (.bool true))) := Lib.hid ⟨hA4, hset, hN3, (HBR.out.trans hb3).setCell (p := ⟨bb, q, none⟩) hlow _⟩
          clear hb3 hA3 hO3 hN3 hset hA4 hlow ho3 Hre
          go_wp2
          go_roundw
          case rel => exact ⟨m + 1, H3, _, _, by omega, by go_num, HX.out.1, HI2.out, HX.out.2.1, HX.out.2.2.1, HX.out.2.2.2⟩
          case measure => simp [intOf]; omega
        · have Hre := Lib.hid (HA.out.own_no z (1 + (m : Int) % 5) (fun h => hz h.1))
          clear hz
          go_wp2_with fail; (with_reducible refine (Hre.out).mono ?_); rintro e w3 ⟨er, rfl, her, rfl⟩
          go_wp2
          go_roundw
          case rel => exact ⟨m + 1, H, R, hs, by omega, by go_num, HA.out, HI.out, HO.out, HN.out, HBR.out⟩
          case measure => simp [intOf]; omega
      · clear hbr
        have hDF0 : Hid (DFree (dv0 N 16 N) N 0) := Lib.hid ⟨rfl, rfl, rfl, Nat.le_refl _⟩
        go_wp2
        generalize wr = wR at *
        go_loopw [76] (fun i wr => ∃ (m : Nat) (H : Nat → Prop) (D : Dv), m ≤ l2.length ∧ i = .int .i64 m ∧ AT wr w.heap.size p d H R [] D ∧ DFree D N m ∧ BR wr w.heap.size bb N hs ∧ ¬ H bb ∧ Below w.heap.size w wr) (fun i _ => l2.length - (intOf i).toNat)
        case atStart => exact ⟨0, H, _, Nat.zero_le _, rfl, HA.out, hDF0.out, HO.out, HN.out, HBR.out⟩
        case round =>
          clear HA HO HN HBR hDF0
          obtain ⟨m, H, D, hm, rfl, hA, hDF, hO, hN, hbr⟩ := hrel
          have HA := Lib.hid hA
          have HDF := Lib.hid hDF
          have HO := Lib.hid hO
          have HN := Lib.hid hN
          have HBR := Lib.hid hbr
          have hdn := hDF.done
          clear hA hDF hO hN
          by_cases hlt2 : m < l2.length
          · obtain ⟨kb, ko, rfl, hkc⟩ := (HK2.out.below hbr) (by omega)
            have f0 := hkc m hlt2
            clear hkc hbr
            generalize l2[m] = z at *
            have hb3 : Below wr.heap.size wr (wr.alloc (.cells #[.int .u8 7] 5)) := (Below.refl _ wr).alloc (Nat.le_refl _) _
            have HA3 := Lib.hid (HA.out.below hb3)
            have HO3 := Lib.hid (HO.out.below hb3)
            have HB3 := Lib.hid (bnext HBR.out hb3)
            have Hap := Lib.hid (HA3.out.append (by omega) z (RB.fresh wr [7] #[.int .u8 7] 5 (0, 0) 1 1 rfl rfl (by decide)) (by decide))
            have HDF2 := Lib.hid (zapp_free HDF.out z [7])
            clear hb3
            generalize zapp D z [7] = zr at *
            go_wp2_with fail; (with_reducible refine (Hap.out).mono ?_); rintro e w4 ⟨rfl, ho4⟩
            have hb4 := ho4.below HA3.out.ge HA3.out.room
            obtain ⟨H4, hA4, hO4, hN4⟩ := ho4.keepB HO3.out HN.out
            have HX := Lib.hid (And.intro hA4 (And.intro hO4 (And.intro hN4 (HB3.out.trans hb4))))
            clear hA4 hO4 hN4 hb4 ho4 Hap
            go_wp2
            go_roundw
            case rel => exact ⟨m + 1, H4, zr.1, by omega, by go_num, HX.out.1, HDF2.out, HX.out.2.1, HX.out.2.2.1, HX.out.2.2.2⟩
            case measure => simp [intOf]; omega
          · clear hbr
            have hrb := HA.out.rebuild (by simp)
            rw [List.nil_append] at hrb
            have htw := rb_twice (R := R) (D := D) (fun _ _ => trivial)
            have hple := places_le R 0 R.length
            have hmem : ∀ i, i ∈ rbl D (places R 0 R.length) ↔ ∃ hi : i < R.length, R[i] = 0 ∧ 0 < zst D i := fun i => by
              unfold rbl
              rw [List.mem_filter, places_mem]
              constructor
              · rintro ⟨⟨a, b⟩, c⟩; exact ⟨a, b, of_decide_eq_true c⟩
              · rintro ⟨a, b, c⟩; exact ⟨⟨a, b⟩, decide_eq_true c⟩
            have hrl : (rbl D (places R 0 R.length)).length ≤ 64 := by
              have := List.length_filter_le (fun (z : Nat) => decide (0 < zst D z)) (places R 0 R.length)
              have h3 := HI.out.len
              unfold rbl; omega
            generalize hL : rbl D (places R 0 R.length) = L at *
            have hR1 : ∀ i (h : i < (setAll R L).length) (h2 : i < R.length), (setAll R L)[i] = if i ∈ L then 6 else R[i] := setAll_at L R
            have hR1l : (setAll R L).length = N := by rw [setAll_len]; exact HI.out.len
            have HR1 := Lib.hid hR1
            have HR1l := Lib.hid hR1l
            have HM := Lib.hid hmem
            have HRB := Lib.hid hrb
            have HTW := Lib.hid htw
            clear hR1 hR1l hmem hrb htw hL hple
            generalize hRR : setAll R L = R1 at *
            clear hRR
            go_wp2_with fail; (with_reducible refine (HRB.out).mono ?_); rintro e w5 ⟨rfl, ho5⟩
            have hb5 := ho5.below HA.out.ge HA.out.room
            obtain ⟨H5, hA5, hO5, hN5⟩ := ho5.keepB HO.out HN.out
            have HB5 := Lib.hid (HBR.out.trans hb5)
            have HA5 := Lib.hid hA5
            have HO5 := Lib.hid hO5
            have HN5 := Lib.hid hN5
            have Hqu := Lib.hid (hA5.queue (by simp; omega))
            clear ho5 hb5 hA5 hO5 hN5 HRB HA HO HN HBR
            go_wp2_with fail; (with_reducible refine (Hqu.out).mono ?_); rintro e w6 ⟨u, rfl, hru, hb6⟩
            obtain ⟨ua, uc, rfl, _⟩ := row_shape hru
            have HA6 := Lib.hid (HA5.out.below hb6)
            have HO6 := Lib.hid (HO5.out.below hb6)
            have HB6 := Lib.hid (bnext HB5.out hb6)
            have hrb2 := HA6.out.rebuild (by simp; omega)
            rw [HTW.out] at hrb2
            have hrb3 : Calls Try.prog 20 #[.pointer (some ⟨p, 0, none⟩), .pointer (some ⟨d, 0, none⟩)] w6 fun e w' => e = .returned (.int .i64 0) ∧ AOut w6 w.heap.size p d H5 R1 (L.map fun (z : Nat) => (z : Int)) D w' := hrb2.mono fun e w' ⟨h1, h2⟩ => ⟨h1, by simpa [setAll] using h2⟩
            have HRB3 := Lib.hid hrb3
            simp only [List.length_map]
            clear hru hb6 hrb2 hrb3 HA5 HO5 HB5 Hqu
            go_wp2_with fail; (with_reducible refine (HRB3.out).mono ?_); rintro e w7 ⟨rfl, ho7⟩
            have hb7 := ho7.below HA6.out.ge HA6.out.room
            obtain ⟨H7, hA7, hO7, hN7⟩ := ho7.keepB HO6.out HN5.out
            have HA7 := Lib.hid hA7
            have HO7 := Lib.hid hO7
            have HB7 := Lib.hid (HB6.out.trans hb7)
            clear ho7 hb7 hA7 hO7 hN7 HA6 HO6 HB6 HN5 HRB3
            go_wp2
            generalize wr = wS at *
            go_loopw [100] (fun i wr => ∃ m : Nat, m ≤ N ∧ i = .int .i64 m ∧ Below w7.heap.size w7 wr) (fun i _ => N - (intOf i).toNat)
            case atStart => exact ⟨0, Nat.zero_le _, rfl, Below.refl _ _⟩
            case round =>
              obtain ⟨m, hm, rfl, hbx⟩ := hrel
              by_cases hlt3 : m < N
              · have hmR : m < R.length := by rw [HI.out.len]; exact hlt3
                have hmR1 : m < R1.length := by rw [HR1l.out]; exact hlt3
                have hms : m < hs.length := by rw [HI.out.hl]; exact hlt3
                have hro := (HA7.out.below hbx).role m
                rw [roleAt_in hmR1, HR1.out m hmR1 hmR] at hro
                have hst := (HA7.out.below hbx).state m
                have hcell := (HO7.out.below hbx).cell m hms
                rw [HI.out.has m hmR hms] at hcell
                have hv := HI.out.val m hmR
                have hmm := HM.out m
                have HBX := Lib.hid hbx
                clear hbx
                rcases hv with hv | hv
                · rw [hv] at hro hcell
                  have hcf : wr.cell? ⟨bb, m, none⟩ = some (.bool false) := hcell
                  clear hcell
                  by_cases hmL : m ∈ L
                  · obtain ⟨_, _, hp⟩ := hmm.1 hmL
                    rw [if_pos hmL] at hro
                    have Hro := Lib.hid hro
                    have Hst := Lib.hid hst
                    clear hro hst hmm hmL hv
                    generalize zst D m = s at *
                    go_wp2_with fail; (with_reducible refine (Hro.out).mono ?_); rintro e wr ⟨rfl, rfl⟩
                    go_wp2_with fail; (with_reducible refine (Hst.out).mono ?_); rintro e wr ⟨rfl, rfl⟩
                    go_wp2
                    go_roundw
                    case rel => exact ⟨m + 1, by omega, by go_num, HBX.out⟩
                    case measure => simp [intOf]; omega
                  · have hp : ¬ 0 < zst D m := fun hp => hmL (hmm.2 ⟨hmR, hv, hp⟩)
                    rw [if_neg hmL] at hro
                    have Hro := Lib.hid hro
                    have Hst := Lib.hid hst
                    clear hro hst hmm hmL hv
                    generalize zst D m = s at *
                    go_wp2_with fail; (with_reducible refine (Hro.out).mono ?_); rintro e wr ⟨rfl, rfl⟩
                    go_wp2_with fail; (with_reducible refine (Hst.out).mono ?_); rintro e wr ⟨rfl, rfl⟩
                    go_wp2
                    go_roundw
                    case rel => exact ⟨m + 1, by omega, by go_num, HBX.out⟩
                    case measure => simp [intOf]; omega
                · have hmL : m ∉ L := fun h => by
                    obtain ⟨_, h0, _⟩ := hmm.1 h
                    omega
                  rw [if_neg hmL] at hro
                  have hcf : wr.cell? ⟨bb, m, none⟩ = some (.bool true) := by rw [hcell, decide_eq_true (by omega)]
                  have Hro := Lib.hid hro
                  obtain ⟨hv1, hv2⟩ := hv
                  clear hro hst hmm hmL hcell
                  generalize R[m] = y at *
                  go_wp2_with fail; (with_reducible refine (Hro.out).mono ?_); rintro e wr ⟨rfl, rfl⟩
                  go_wp2
                  go_roundw
                  case rel => exact ⟨m + 1, by omega, by go_num, HBX.out⟩
                  case measure => simp [intOf]; omega
              · have HRI : Hid (RInv N R1 (L.map fun (z : Nat) => (z : Int)) D) := Lib.hid (by
                  refine ⟨HR1l.out, fun z hz => ?_, fun i hi h0 => ?_, fun i hi h6 => ?_⟩
                  · obtain ⟨n, hn, rfl⟩ := List.mem_map.1 hz
                    obtain ⟨h1, _⟩ := (HM.out n).1 hn
                    exact ⟨n, rfl, by rw [← HI.out.len]; exact h1⟩
                  · have h2 : i < R.length := by rw [HI.out.len, ← HR1l.out]; exact hi
                    rw [HR1.out i hi h2] at h0
                    split at h0
                    · cases h0
                    · rename_i hn
                      have h3 : ¬ 0 < zst D i := fun hp => hn ((HM.out i).2 ⟨h2, h0, hp⟩)
                      have h4 : 0 ≤ zst D i := by
                        have hlA := HA7.out.lenA
                        have hDn := HDF.out.n
                        have hiN : i < N := by rw [← HI.out.len]; exact h2
                        rw [zst_at i (by rw [hlA, hDn]; exact hiN)]
                        omega
                      omega
                  · have h2 : i < R.length := by rw [HI.out.len, ← HR1l.out]; exact hi
                    rw [HR1.out i hi h2] at h6
                    split at h6
                    · rename_i hn; exact List.mem_map.2 ⟨i, hn, rfl⟩
                    · rcases HI.out.val i h2 with h | h <;> omega)
                have HA8 := Lib.hid (HA7.out.below hbx)
                have HB8 := Lib.hid (bnext HB7.out hbx)
                have hQl : (L.map fun (z : Nat) => (z : Int)).length = L.length := by simp
                have HQl := Lib.hid hQl
                clear hbx hQl HA7 HB7 HO7 HR1 HR1l HM HTW HI
                generalize (L.map fun (z : Nat) => (z : Int)) = Q at *
                go_wp2
                generalize wr = wT at *
                go_loopw [135] (fun i wr => ∃ (k : Nat) (H : Nat → Prop) (R : List Int) (D : Dv), k ≤ L.length ∧ i = .int .i64 k ∧ AT wr w.heap.size p d H R (Q.drop k) D ∧ RInv N R (Q.drop k) D ∧ DFree D N (80 + k) ∧ Below w.heap.size w wr) (fun i _ => L.length - (intOf i).toNat)
                case atStart => exact ⟨0, H7, R1, D, Nat.zero_le _, rfl, HA8.out, HRI.out, ⟨HDF.out.down, HDF.out.left, HDF.out.n, by omega⟩, HB8.out⟩
                case round =>
                  clear HA8 HB8 HRI HDF
                  obtain ⟨k, H, R, D, hk, rfl, hA, hI, hDF, hbr⟩ := hrel
                  have HA := Lib.hid hA
                  have HI := Lib.hid hI
                  have HDF := Lib.hid hDF
                  have HBR := Lib.hid hbr
                  clear hA hI hDF hbr
                  by_cases hlt4 : k < L.length
                  · have hkQ : k < Q.length := by rw [HQl.out]; exact hlt4
                    have hdrop : Q.drop k = Q[k] :: Q.drop (k + 1) := List.drop_eq_getElem_cons hkQ
                    obtain ⟨q, hqe, hqn⟩ := HI.out.q Q[k] (by rw [hdrop]; exact List.mem_cons_self)
                    rw [hqe] at hdrop
                    have hA2 := HA.out
                    rw [hdrop] at hA2
                    have hI2 := HI.out
                    rw [hdrop] at hI2
                    have hqR : q < R.length := by rw [HI.out.len]; exact hqn
                    have hqD : q < D.n := by rw [HDF.out.n]; exact hqn
                    obtain ⟨z1, z2, z3, z4, z5⟩ := zrst_free (m := q) HDF.out.down HDF.out.left hqD
                    have hlA := HA.out.lenA
                    have hstz : ∀ i : Nat, zst (zrst D q).1 i = if i = q ∧ q < D.A.length then 0 else zst D i := zrst_st HDF.out.down HDF.out.left hqD
                    have hdd : D.done < 4611686018427387904 := by have := HDF.out.done; omega
                    have hrs := hA2.reset hqR hdd
                    rw [z1] at hrs
                    have hrs2 : Calls Try.prog 18 #[.pointer (some ⟨p, 0, none⟩), .pointer (some ⟨d, 0, none⟩)] wr fun e w' => e = .returned (.tuple #[.int .i64 q, .int .i64 0]) ∧ AOut wr w.heap.size p d H (R.set q 0) (Q.drop (k + 1)) (zrst D q).1 w' := hrs.mono fun e w' h => by
                      rcases h with ⟨h, _⟩ | ⟨_, h1, h2⟩
                      · exact absurd rfl h
                      · exact ⟨h1, h2⟩
                    have hInew : RInv N (R.set q 0) (Q.drop (k + 1)) (zrst D q).1 := by
                      refine ⟨by rw [List.length_set]; exact hI2.len, fun z hz => hI2.q z (List.mem_cons_of_mem _ hz), fun i hi h0 => ?_, fun i hi h6 => ?_⟩
                      · rw [hstz]
                        by_cases e : i = q
                        · rw [if_pos ⟨e, by rw [hlA]; exact hqD⟩]
                        · rw [if_neg (fun h => e h.1)]
                          rw [List.getElem_set_ne (fun h => e h.symm)] at h0
                          exact hI2.fr i (by simpa using hi) h0
                      · rw [List.getElem_set] at h6
                        split at h6
                        · cases h6
                        · rename_i hne
                          have h7 := hI2.six i (by simpa using hi) h6
                          rcases List.mem_cons.1 h7 with h8 | h8
                          · exact absurd (by omega) hne
                          · exact h8
                    have HIn := Lib.hid hInew
                    have HDn : Hid (DFree (zrst D q).1 N (80 + (k + 1))) := Lib.hid ⟨z2, z3, z4.trans HDF.out.n, by have := HDF.out.done; omega⟩
                    have Hrs := Lib.hid hrs2
                    clear hrs hrs2 hInew hA2 hI2 hdrop z1 z2 z3 z4 z5 hstz hqe
                    generalize (zrst D q).1 = D2 at *
                    go_wp2_with fail; (with_reducible refine (Hrs.out).mono ?_); rintro e w3 ⟨rfl, ho3⟩
                    have hb3 := ho3.below HA.out.ge HA.out.room
                    obtain ⟨⟨H3, hA3, _⟩, _⟩ := ho3
                    have HA3 := Lib.hid hA3
                    have HB3 := Lib.hid (HBR.out.trans hb3)
                    clear hA3 hb3 Hrs
                    go_wp2
                    go_roundw
                    case rel => exact ⟨k + 1, H3, _, D2, by omega, by go_num, HA3.out, HIn.out, HDn.out, HB3.out⟩
                    case measure => simp [intOf]; omega
                  · have hdr : Q.drop k = [] := List.drop_of_length_le (by rw [HQl.out]; omega)
                    have Hli := Lib.hid (HA.out.list 0)
                    have hpl : ∀ z ∈ places R 0 R.length, zst D z = 0 := fun z hz => by
                      obtain ⟨h1, h2⟩ := places_mem.1 hz
                      exact HI.out.fr z h1 h2
                    have HPL := Lib.hid hpl
                    have hc6 : R.count 6 = 0 := by
                      rw [List.count_eq_zero]
                      intro h6
                      obtain ⟨i, hi, he⟩ := List.getElem_of_mem h6
                      have := HI.out.six i hi he
                      rw [hdr] at this
                      cases this
                    have HC6 := Lib.hid hc6
                    have hpll := places_le R 0 R.length
                    have hRl := HA.out.rl
                    have hll : (places R 0 R.length).length ≤ 64 := by omega
                    clear hdr hpl hc6 hpll
                    generalize places R 0 R.length = P at *
                    go_wp2_with fail; (with_reducible refine (Hli.out).mono ?_); rintro e w3 ⟨u, rfl, hru, hb3⟩
                    obtain ⟨ua, uc, rfl, _, _, _⟩ := row_shape hru
                    have HU := Lib.hid hru
                    have HA3 := Lib.hid (HA.out.below hb3)
                    have HB3 := Lib.hid (bnext HBR.out hb3)
                    clear hru hb3 Hli
                    go_wp2
                    generalize wr = wU at *
                    go_loopw [149] (fun i wr => ∃ m : Nat, m ≤ P.length ∧ i = .int .i64 m ∧ Below w3.heap.size w3 wr) (fun i _ => P.length - (intOf i).toNat)
                    case atStart => exact ⟨0, Nat.zero_le _, rfl, Below.refl _ _⟩
                    case round =>
                      obtain ⟨m, hm, rfl, hbx⟩ := hrel
                      by_cases hlt5 : m < P.length
                      · have hrow := row_past HU.out hbx (Nat.le_refl _)
                        have hf0 : ∃ x, ua = some ⟨x, 0, none⟩ ∧ wr.cell? ⟨x, m, none⟩ = some (.int .i64 (P[m] : Nat)) := by
                          rcases hrow.2 with ⟨e1, _⟩ | ⟨x, cap, cur, e1, _⟩
                          · simp only [Value.slice.injEq] at e1; have := e1.2.1; omega
                          · simp only [Value.slice.injEq] at e1
                            obtain ⟨rfl, _, rfl⟩ := e1
                            refine ⟨x, rfl, ?_⟩
                            rw [World.ownsRow.cellAt hrow m (by omega)]
                            simp [nvs, hlt5]
                        obtain ⟨x, rfl, f0⟩ := hf0
                        have hst := (HA3.out.below hbx).state (P[m] : Nat)
                        rw [HPL.out _ (List.getElem_mem hlt5)] at hst
                        have Hst := Lib.hid hst
                        clear hst hrow
                        generalize P[m] = z at *
                        go_wp2_with fail; (with_reducible refine (Hst.out).mono ?_); rintro e wr ⟨rfl, rfl⟩
                        go_wp2
                        go_roundw
                        case rel => exact ⟨m + 1, by omega, by go_num, hbx⟩
                        case measure => simp [intOf]; omega
                      · have hcn := (HA3.out.below hbx).count 6
                        rw [HC6.out] at hcn
                        have Hcn : Hid (Calls Try.prog 12 #[.pointer (some ⟨p, 0, none⟩), .int .i64 6] wr fun e w' => e = .returned (.int .i64 0) ∧ Below wr.heap.size wr w') := Lib.hid hcn
                        have HBX := Lib.hid (bnext HB3.out hbx)
                        clear hcn hbx
                        go_wp2_with fail; (with_reducible refine (Hcn.out).mono ?_); rintro e w4 ⟨rfl, hb4⟩
                        go_wp2_with fail; (with_reducible refine (alawake _).mono ?_); rintro e w5 ⟨rfl, hb5⟩
                        go_wp2
                        go_ret
                        exact ⟨rfl, bnext (bnext HBX.out hb4) hb5⟩
end Go.Proofs.Ytcgjkgcafkcgoaa
