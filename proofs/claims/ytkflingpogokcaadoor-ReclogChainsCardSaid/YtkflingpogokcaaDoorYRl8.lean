/- Chapter 09: ReclogScans. -/
import Derived.Test.YtkflingpogokcaaDoorYRl7
namespace Go.Proofs.YtkflingpogokcaaDoor
open Go.RowKit Go.Shelf
set_option linter.unusedVariables false
set_option linter.unusedSimpArgs false

theorem flR_mem : ∀ {K : List (List UInt8)} {x : List UInt8}, x ∈ K → (frB x).length ≤ (flR K).length
  | t :: K, x, h => by
    have e : (flR (t :: K)).length = (frB t).length + (flR K).length := by simp [flR]
    rw [e]
    rcases List.mem_cons.1 h with rfl | h
    · omega
    · have := flR_mem h; omega
theorem flR_take_le (K : List (List UInt8)) (k : Nat) : (flR (K.take k)).length ≤ (flR K).length := by
  have e : flR K = flR (K.take k) ++ flR (K.drop k) := by rw [← flR_append, List.take_append_drop]
  rw [e, List.length_append]; omega
set_option maxRecDepth 100000 in
set_option maxHeartbeats 4000000 in
theorem law09_s {w : World} {ao : Option Addr} {c : Nat} {b : List UInt8} (hT : Tab9 w) (h : RB w (.slice ao b.length c) b) (hm : b.length ≤ maxLen) :
    Calls Tryd.prog 4 #[.slice ao b.length c] w fun e w' => e = .returned (.bool true) ∧ Below w.heap.size w w' := by
  have HT := Lib.hid hT
  have H := Lib.hid h
  have hcap := h.capl
  unfold maxLen at hm
  clear hT h
  by_cases h5 : 3000 < b.length
  · have HA := Lib.hid (awake09 HT.out)
    go_enter Tryd.func4, Tryd.ntmps4
    go_wp2_with fail; (with_reducible refine (HA.out).mono ?_); rintro e w1 ⟨rfl, hb1⟩
    go_wp2
    go_ret
    exact ⟨rfl, hb1⟩
  · have HS := Lib.hid (scan_n HT.out H.out (by omega))
    go_enter Tryd.func4, Tryd.ntmps4
    go_wp2_with fail; (with_reducible refine (HS.out).mono ?_); rintro e w1 ⟨xs, u, hIs, rfl, hrow, hb1⟩
    obtain ⟨hfl, hft⟩ := hIs.flat
    obtain ⟨P, ua, uc, hP, rfl, huc, hus⟩ := hrow.bss2
    generalize xs.map RX.l = K at *
    have h5x := flR_len K
    have hPl : P.length = K.length := by rw [← hP, List.length_map]
    have HB1 := Lib.hid hb1
    have HU1 := Lib.hid hus
    have HIs := Lib.hid hIs
    have HP := Lib.hid hP
    have HPl := Lib.hid hPl
    have hPs : P.length ≤ 3000 := by omega
    have HR2 := Lib.hid (refscan (H.out.below HB1.out) (by omega))
    have HX : Hid ((flR K).length ≤ 3000) := Lib.hid (by omega)
    have hfc : (flR K).length ≤ c := by omega
    have HFt := Lib.hid hft
    have HFl := Lib.hid hfl
    clear hIs hrow hus hb1 h5x hft hfl hP hPl
    go_wp2_with fail; (with_reducible refine (HR2.out).mono ?_); rintro e w2 ⟨ys, v, hIs2, rfl, hrow2, hb2⟩
    have hu2 := hIs2.uniq HIs.out
    obtain ⟨Q, va, vc, hQ, rfl, hvc, hvs⟩ := hrow2.bss2
    rw [hu2] at hQ ⊢
    have hQP : Q.length = P.length := by rw [HPl.out, ← hQ, List.length_map]
    have HB2 := Lib.hid (HB1.out.trans (hb2.mono HB1.out.size))
    have HU2 := Lib.hid (HU1.out.below hb2)
    have hpm : P.length ≤ maxLen := by unfold maxLen; omega
    have hsm : Calls Tryd.prog 16 #[.slice ua P.length uc, .slice va P.length vc] w2 fun e w' => e = .returned (.bool true) ∧ Below w2.heap.size w2 w' := same9 HU2.out hpm hvs hQP.symm (fun j h1 h2 => by
      have e : P.map (·.2) = Q.map (·.2) := HP.out.trans hQ.symm
      have := List.getElem_of_eq e (show j < (P.map (·.2)).length by rw [List.length_map]; exact h1)
      rw [List.getElem_map, List.getElem_map] at this
      exact this)
    have HSm := Lib.hid hsm
    rw [hQP]
    clear hIs2 hu2 hrow2 hb2 hQ hvs hQP hsm hpm
    go_wp2_with fail; (with_reducible refine (HSm.out).mono ?_); rintro e w3 ⟨rfl, hb3⟩
    have HB3 := Lib.hid (HB2.out.trans (hb3.mono HB2.out.size))
    have HU3 := Lib.hid (HU2.out.below hb3)
    clear hb3
    go_wp2
    go_loopw [7, 35] (fun v i wr => ∃ k : Nat, k ≤ P.length ∧ i = .int .i64 k ∧ OB wr w3.heap.size v (flR (K.take k)) ∧ Below w3.heap.size w3 wr) (fun _ i _ => P.length - (intOf i).toNat)
    case atStart => exact ⟨0, Nat.zero_le _, rfl, OB.nil _ _, Below.refl _ _⟩
    case round =>
      obtain ⟨k, hk, rfl, hob, hbr⟩ := hrel
      have HOB := Lib.hid hob
      have HBr := Lib.hid hbr
      have HW := Lib.hid (HB3.out.trans (hbr.mono HB3.out.size))
      obtain ⟨av, nv, cv, rfl, hmv⟩ := hob.shape
      have hbd : (flR (K.take k)).length ≤ 3000 := Nat.le_trans (flR_take_le K k) HX.out
      by_cases hlt : k < P.length
      · obtain ⟨bb, off, xo, cc, rfl, hv, d0, hrb, hxm⟩ := HU3.out.cell hbr k hlt
        have hkK : k < K.length := by have := HPl.out; omega
        have hkx : K[k] = (P[k]).2 := by
          have := List.getElem_of_eq HP.out (show k < (P.map (·.2)).length by rw [List.length_map]; exact hlt)
          rw [List.getElem_map] at this
          exact this.symm
        have hst := flR_take_succ hkK
        rw [hkx] at hst
        have Hst := Lib.hid hst
        have hme := flR_mem (List.getElem_mem hkK)
        rw [hkx] at hme
        have HFx : Hid ((frB (P[k]).2).length ≤ 3000) := Lib.hid (Nat.le_trans hme HX.out)
        have hlx : (P[k]).2.length ≤ 3000 := by have := frB_len (P[k]).2; have := HFx.out; omega
        have HFr := Lib.hid (rframe (HT.out.below HW.out) hrb (by omega))
        clear hv hrb hxm hst hkx hkK hme hob hbr
        generalize P[k] = x at *
        go_wp2_with fail
        with_reducible refine (HFr.out).mono ?_
        rintro e w4 ⟨v4, rfl, ho4, hb4⟩
        have HO4 := Lib.hid (HOB.out.past hb4 (Nat.le_refl _))
        have HB4 := Lib.hid (HBr.out.trans (hb4.mono HBr.out.size))
        have HR4 := Lib.hid ho4.reads
        have hz4 := HB4.out.size
        clear ho4 hb4
        go_wp2_with (at_builtin; (refine wpList_appr rfl (.tmp 39) (.tmp 41) rfl w3.heap.size _ _ rfl HO4.out _ _ rfl HR4.out ?_ hz4 ?_); (have := HFx.out; omega); intro v5 w5 ho5 hold ha5)
        go_roundw
        case rel => exact ⟨k + 1, by omega, by go_num, by rw [Hst.out]; exact ho5, HB4.out.trans (HO4.out.below ha5 hz4)⟩
        case measure => simp [intOf]; omega
      · obtain rfl : k = P.length := by omega
        have htk : K.take P.length = K := List.take_of_length_le (by have := HPl.out; omega)
        rw [htk] at HOB hbd
        obtain rfl := HOB.out.len
        have hrb := rb_takeAny (H.out.below HW.out) HFl.out
        rw [HFt.out] at hrb
        have hsm := same_any HOB.out.reads hrb
        rw [beq_iff_eq.2 rfl] at hsm
        have HSm := Lib.hid hsm
        have HA := Lib.hid (awake09 (HT.out.below HW.out))
        clear hob hbr htk hrb hsm hlt hk
        go_wp2_with fail; (with_reducible refine (HSm.out).mono ?_); rintro e w5 ⟨rfl, rfl⟩
        go_wp2_with fail; (with_reducible refine (HA.out).mono ?_); rintro e w6 ⟨rfl, hb6⟩
        go_wp2
        go_ret
        exact ⟨rfl, HW.out.trans (hb6.mono HW.out.size)⟩
end Go.Proofs.YtkflingpogokcaaDoor
