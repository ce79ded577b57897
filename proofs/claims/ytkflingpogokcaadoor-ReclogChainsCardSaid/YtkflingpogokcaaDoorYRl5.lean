/- Chapter 09: ReclogJoins. -/
import Derived.Test.YtkflingpogokcaaDoorYRl4
namespace Go.Proofs.YtkflingpogokcaaDoor
open Go.RowKit Go.Shelf
set_option linter.unusedVariables false
set_option linter.unusedSimpArgs false

theorem flR_append (L M : List (List UInt8)) : flR (L ++ M) = flR L ++ flR M := by simp [flR]
theorem flR_small : ∀ (L : List (List UInt8)), (∀ x ∈ L, x.length ≤ 300) → (flR L).length ≤ 400 * L.length
  | [], _ => by simp [flR]
  | t :: L, h => by
    have h1 := flR_small L (fun x hx => h x (List.mem_cons_of_mem _ hx))
    have h2 := h t (List.mem_cons_self ..)
    have h3 := frB_len t
    have h4 := num_len9 (n := t.length) (by omega)
    have e : (flR (t :: L)).length = (frB t).length + (flR L).length := by simp [flR]
    rw [e, List.length_cons]; omega
theorem ScanIs.flat {b : List UInt8} {L : List (List UInt8)} (h : ScanIs b L) : (flR L).length ≤ b.length ∧ b.take (flR L).length = flR L := by
  obtain ⟨_, r, rfl, _⟩ := h
  exact ⟨by rw [List.length_append]; exact Nat.le_add_right _ _, by rw [show L.flatMap frB = flR L from rfl, List.take_left]⟩
theorem ScanIs.all {L : List (List UInt8)} (h : ∀ t ∈ L, t.length < 9223372036854775808) : ScanIs (flR L) L := ⟨h, [], by simp [flR], oneP0⟩
theorem RowR.bss2 {W : World} {B : Nat} {u : Value} {xs : List RX} (h : RowR W B u xs) : ∃ (P : List (Value × List UInt8)) (ao : Option Addr) (c : Nat), P.map (·.2) = xs.map RX.l ∧ u = .slice ao P.length c ∧ c ≤ maxLen ∧ BSs W ao P := by
  obtain ⟨ao, c, h1, h2, h3⟩ := h.bss
  exact ⟨_, ao, c, by simp, by rw [h1]; simp, h2, h3⟩
theorem take_map_succ {L : List (Value × List UInt8)} {k : Nat} (h : k < L.length) : (L.take (k + 1)).map (·.2) = (L.take k).map (·.2) ++ [(L[k]).2] := by
  rw [List.take_succ_eq_append_getElem h, List.map_append]; rfl
theorem flR_bound {K : List (List UInt8)} {L : List (Value × List UInt8)} (hK : (flR K).length ≤ 2000) (hL : L.length ≤ 20) (h : ∀ x ∈ L, x.2.length ≤ 300) (k : Nat) : (flR (K ++ (L.take k).map (·.2))).length ≤ 10000 := by
  have h1 := flR_small ((L.take k).map (·.2)) (fun x hx => by
    obtain ⟨y, hy, rfl⟩ := List.mem_map.1 hx
    exact h y (List.mem_of_mem_take hy))
  rw [flR_append, List.length_append]
  rw [List.length_map, List.length_take] at h1
  omega
set_option maxRecDepth 100000 in
set_option maxHeartbeats 4000000 in
theorem law09_j {w : World} {ao lo : Option Addr} {c lc : Nat} {b : List UInt8} {L : List (Value × List UInt8)} (hT : Tab9 w) (h : RB w (.slice ao b.length c) b) (hm : b.length ≤ maxLen) (hL : BSs w lo L) (hml : L.length ≤ maxLen) :
    Calls Tryd.prog 6 #[.slice ao b.length c, .slice lo L.length lc] w fun e w' => e = .returned (.bool true) ∧ Below w.heap.size w w' := by
  have HT := Lib.hid hT
  have H := Lib.hid h
  have HL := Lib.hid hL
  have hcap := h.capl
  have hsm : Calls Tryd.prog 17 #[.slice lo L.length lc, .int .i64 20] w _ := small9 (c := lc) hL hml 20 (by decide)
  have HSm := Lib.hid hsm
  clear hsm
  unfold maxLen at hm hml
  clear hT h hL
  by_cases h5 : 2000 < b.length
  · have HA := Lib.hid (awake09 HT.out)
    go_enter Tryd.func6, Tryd.ntmps6
    go_wp2_with fail; (with_reducible refine (HA.out).mono ?_); rintro e w1 ⟨rfl, hb1⟩
    go_wp2
    go_ret
    exact ⟨rfl, hb1⟩
  · go_enter Tryd.func6, Tryd.ntmps6
    go_wp2_with fail; (with_reducible refine (HSm.out).mono ?_); rintro e w1 ⟨z, rfl, hz, hb1⟩
    have HB1 := Lib.hid hb1
    have HZ := Lib.hid hz
    clear hb1 hz
    cases z with
    | false =>
      have HA := Lib.hid (awake09 (HT.out.below HB1.out))
      go_wp2_with fail; (with_reducible refine (HA.out).mono ?_); rintro e w2 ⟨rfl, hb2⟩
      go_wp2
      go_ret
      exact ⟨rfl, HB1.out.trans (hb2.mono HB1.out.size)⟩
    | true =>
      obtain ⟨h300, h20⟩ := HZ.out.1 rfl
      have H300 := Lib.hid h300
      clear h300
      have HS := Lib.hid (scan_n (HT.out.below HB1.out) (H.out.below HB1.out) (by omega))
      go_wp2_with fail; (with_reducible refine (HS.out).mono ?_); rintro e w2 ⟨xs, u, hIs, rfl, hrow, hb2⟩
      have HB2 := Lib.hid (HB1.out.trans (hb2.mono HB1.out.size))
      obtain ⟨hfl, hft⟩ := hIs.flat
      obtain ⟨P, ua, uc, hP, rfl, huc, hus⟩ := hrow.bss2
      have h5x := flR_len (xs.map RX.l)
      have hPl : P.length = (xs.map RX.l).length := by rw [← hP, List.length_map]
      have hall := hIs.1
      generalize xs.map RX.l = K1 at *
      have HU := Lib.hid hus
      have HPm := Lib.hid hP
      have hPl2 : P.length ≤ 2000 := by omega
      have hcp : Calls Tryd.prog 18 #[.slice ao (flR K1).length c] w2 (NewB w2 (flR K1)) := by
        have := refcopy (rb_takeAny (H.out.below HB2.out) hfl) (by rw [hft]; omega)
        rw [hft] at this
        exact this
      have HC := Lib.hid hcp
      have HX : Hid ((flR K1).length ≤ 2000) := Lib.hid (by omega)
      have hfc : (flR K1).length ≤ c := by omega
      have HAll : Hid (∀ t ∈ K1 ++ L.map (·.2), t.length < 9223372036854775808) := Lib.hid fun t ht => by
        rw [List.mem_append] at ht
        rcases ht with ht | ht
        · exact hall t ht
        · obtain ⟨y, hy, rfl⟩ := List.mem_map.1 ht
          have := H300.out y hy
          omega
      clear hIs hrow hus hcp hb2 h5x hft hP hPl hall
      go_wp2_with fail; (with_reducible refine (HC.out).mono ?_); rintro e w3 ⟨v3, rfl, ho3, hb3⟩
      have HO3 := Lib.hid ho3
      have HB3 := Lib.hid hb3
      obtain ⟨a3, n3, c3, rfl, hm3⟩ := ho3.shape
      clear ho3 hb3 hfl hfc
      go_wp2
      go_loopw [7, 32] (fun v i wr => ∃ k : Nat, k ≤ L.length ∧ i = .int .i64 k ∧ OB wr w2.heap.size v (flR (K1 ++ (L.take k).map (·.2))) ∧ Below w2.heap.size w2 wr) (fun _ i _ => L.length - (intOf i).toNat)
      case atStart => exact ⟨0, Nat.zero_le _, rfl, by rw [List.take_zero, List.map_nil, List.append_nil]; exact HO3.out, HB3.out⟩
      case round =>
        obtain ⟨k, hk, rfl, hob, hbr⟩ := hrel
        have HOB := Lib.hid hob
        have HBr := Lib.hid hbr
        have HW := Lib.hid (HB2.out.trans (hbr.mono HB2.out.size))
        obtain ⟨av, nv, cv, rfl, hmv⟩ := hob.shape
        have hbd := flR_bound HX.out h20 H300.out k
        clear hob hbr
        by_cases hlt : k < L.length
        · obtain ⟨bb, off, xo, cc, rfl, hv, d0, hrb, hxm⟩ := HL.out.cell HW.out k hlt
          have hx3 := H300.out _ (List.getElem_mem hlt)
          have Hst := Lib.hid (take_map_succ hlt)
          have HFr := Lib.hid (rframe (HT.out.below HW.out) hrb (by omega))
          have hfl2 := frB_len (L[k]).2
          have hn9 := num_len9 (n := (L[k]).2.length) (by omega)
          have HFl : Hid ((frB (L[k]).2).length ≤ 1000) := Lib.hid (by omega)
          clear hv hrb hxm hfl2 hn9
          generalize L[k] = x at *
          go_wp2_with fail
          with_reducible refine (HFr.out).mono ?_
          rintro e w4 ⟨v4, rfl, ho4, hb4⟩
          have HO4 := Lib.hid (HOB.out.past hb4 (Nat.le_refl _))
          have HB4 := Lib.hid (HBr.out.trans (hb4.mono HBr.out.size))
          have HR4 := Lib.hid ho4.reads
          have hz4 := HB4.out.size
          clear ho4 hb4
          go_wp2_with (at_builtin; (refine wpList_appr rfl (.tmp 36) (.tmp 38) rfl w2.heap.size _ _ rfl HO4.out _ _ rfl HR4.out ?_ hz4 ?_); (have := HFl.out; omega); intro v5 w5 ho5 hold ha5)
          go_roundw
          case rel => exact ⟨k + 1, by omega, by go_num, by rw [Hst.out, ← List.append_assoc, flR_snoc]; exact ho5, HB4.out.trans (HO4.out.below ha5 hz4)⟩
          case measure => simp [intOf]; omega
        · obtain rfl : k = L.length := by omega
          rw [List.take_of_length_le (Nat.le_refl _)] at HOB hbd
          obtain rfl := HOB.out.len
          have HK := Lib.hid (ScanIs.all HAll.out)
          have hKl : (K1 ++ L.map (·.2)).length = P.length + L.length := by rw [List.length_append, List.length_map, ← HPm.out, List.length_map]
          have HKl := Lib.hid hKl
          have HKd : Hid (K1 ++ L.map (·.2) = (P ++ L).map (·.2)) := Lib.hid (by rw [List.map_append, HPm.out])
          clear hlt hk hKl
          generalize K1 ++ L.map (·.2) = K at *
          have HS5 := Lib.hid (scan_n (HT.out.below HW.out) HOB.out.reads (by omega))
          go_wp2_with fail; (with_reducible refine (HS5.out).mono ?_); rintro e w5 ⟨ys, u5, hIs5, rfl, hrow5, hb5⟩
          have hu5 := hIs5.uniq HK.out
          obtain ⟨Q, ga, gc, hQ, rfl, hgc, hqs⟩ := hrow5.bss2
          rw [hu5] at hQ ⊢
          have HB5 := Lib.hid (HW.out.trans (hb5.mono HW.out.size))
          have HU5 := Lib.hid (HU.out.below (HBr.out.trans (hb5.mono HBr.out.size)))
          have HQs := Lib.hid hqs
          have HQ := Lib.hid hQ
          have hQl : Q.length = P.length + L.length := by rw [← HKl.out, ← hQ, List.length_map]
          have HQl := Lib.hid hQl
          clear hIs5 hu5 hrow5 hb5 hqs hQ hQl
          generalize (flR K).length = F at *
          have hmade : (w5.alloc (.cells #[] 22)).ownsRow w5.heap.size 22 1 (.slice (some ⟨w5.heap.size, 0, none⟩) 0 0) 0 [] := World.ownsRow_made w5 #[] 0 (Nat.le_refl _) (Nat.zero_le _) rfl
          have HM := Lib.hid hmade
          have hba : Below w5.heap.size w5 (w5.alloc (.cells #[] 22)) := (Below.refl _ w5).alloc (Nat.le_refl _) _
          have HUa := Lib.hid (HU5.out.below hba)
          have HBa := Lib.hid hba
          have hza : w5.heap.size ≤ (w5.alloc (.cells #[] 22)).heap.size := hba.size
          have HQn : Hid ((P ++ L).length = Q.length) := Lib.hid (by rw [List.length_append, HQl.out])
          have HJ : Hid (∀ v2 w2, w2.ownsRow w5.heap.size 22 1 v2 (P.length + L.length) (P.map (·.1) ++ L.map (·.1)) → Below w5.heap.size w5 w2 → ∃ a c', v2 = .slice a Q.length c' ∧ BSs w2 a (P ++ L)) := Lib.hid fun v2 w2 h1 h2 => by
            rw [← List.map_append] at h1
            obtain ⟨a, c', e, _, hbs⟩ := bss_of_row h1 (by simp) (fun x hx => by
              rw [List.mem_append] at hx
              rcases hx with hx | hx
              · exact ⟨(HU5.out.2 x hx).1.below h2, (HU5.out.2 x hx).2⟩
              · exact ⟨((HL.out.below HB5.out).2 x hx).1.below h2, (HL.out.2 x hx).2⟩)
            rw [HQn.out] at e
            exact ⟨a, c', e, hbs⟩
          have HV : Hid (∀ (j : Nat) (h1 : j < Q.length) (h2 : j < (P ++ L).length), (Q[j]).2 = ((P ++ L)[j]).2) := Lib.hid fun j h1 h2 => by
            have e : Q.map (·.2) = (P ++ L).map (·.2) := HQ.out.trans HKd.out
            have := List.getElem_of_eq e (show j < (Q.map (·.2)).length by rw [List.length_map]; exact h1)
            rw [List.getElem_map, List.getElem_map] at this
            exact this
          have hQm : Q.length ≤ maxLen := by have := HQl.out; unfold maxLen; omega
          have HQm := Lib.hid hQm
          clear hmade hba hQm
          go_wp2_with (first
            | (at_builtin; (refine wpList_appS rfl (.tmp 52) (.tmp 53) rfl w5.heap.size _ 0 [] rfl HM.out ua uc P rfl HUa.out ?_ hza ?_; (omega); intro v6 w6 ho6 ha6; rw [Nat.zero_add, List.nil_append] at ho6; obtain ⟨a6, c6, rfl, _⟩ := row_shape ho6; have HO6 := Lib.hid ho6; have HB6 := Lib.hid (HBa.out.grown ha6.grown hza (fun k hk => (World.ownsRow.lt HM.out k hk).1)); have hz6 := HB6.out.size; have HL6 := Lib.hid ((HL.out.below HB5.out).below HB6.out); clear ho6 ha6))
            | (at_builtin; go_loud (refine wpList_appS rfl (.tmp 54) (.tmp 55) rfl w5.heap.size _ _ _ rfl HO6.out _ lc L rfl HL6.out ?_ hz6 ?_; (omega); intro v7 w7 ho7 ha7; have hb7 := HB6.out.grown ha7.grown hz6 (fun k hk => (World.ownsRow.lt HO6.out k hk).1); obtain ⟨a7, c7, rfl, hbs7⟩ := HJ.out _ _ ho7 hb7; have HS7 := Lib.hid hbs7; have HB7 := Lib.hid hb7; clear ho7 ha7 hbs7 hb7))
            | (go_at_call 16; with_reducible refine (same9 (HQs.out.below HB7.out) HQm.out HS7.out HQn.out.symm HV.out).mono ?_; rintro e w8 ⟨rfl, hb8⟩; have HB8 := Lib.hid (HB5.out.trans ((HB7.out.trans (hb8.mono HB7.out.size)).mono HB5.out.size)); clear hb8)
            | (go_at_call 9; with_reducible refine (awake09 (HT.out.below HB8.out)).mono ?_; rintro e w9 ⟨rfl, hb9⟩))
          go_ret
          exact ⟨rfl, HB8.out.trans (hb9.mono HB8.out.size)⟩
end Go.Proofs.YtkflingpogokcaaDoor
