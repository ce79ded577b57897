/- Chapter 09: ReclogCut. -/
import Derived.Test.YtkflingpogokcaaDoorYRl5
namespace Go.Proofs.YtkflingpogokcaaDoor
open Go.RowKit Go.Shelf
set_option linter.unusedVariables false
set_option linter.unusedSimpArgs false

theorem one_part {t s q : List UInt8} (ht : t.length < 9223372036854775808) (h : frB t = s ++ q) (hq : q ≠ []) : oneP s = none := by
  cases e : oneP s with
  | none => rfl
  | some x =>
    obtain ⟨u, k⟩ := x
    obtain ⟨_, hu, r, rfl⟩ := one_is e
    have e1 := one_of ht []
    rw [List.append_nil, h, List.append_assoc, one_of hu, Option.some.injEq, Prod.mk.injEq] at e1
    obtain ⟨rfl, _⟩ := e1
    rw [List.append_assoc] at h
    have h2 := congrArg List.length h
    rw [List.length_append, List.length_append] at h2
    exact absurd (List.eq_nil_of_length_eq_zero (by omega)) hq
theorem flR_take_succ {K : List (List UInt8)} {n : Nat} (h : n < K.length) : flR (K.take (n + 1)) = flR (K.take n) ++ frB K[n] := by
  rw [List.take_succ_eq_append_getElem h, flR_snoc]
/-- records that are cut off are told as far as they are whole -/
theorem ScanIs.cut {K : List (List UInt8)} (hK : ∀ t ∈ K, t.length < 9223372036854775808) {n cut : Nat} (hn : n ≤ K.length) (h1 : (flR (K.take n)).length ≤ cut) (h2 : ∀ h : n < K.length, cut < (flR (K.take (n + 1))).length) (hc : cut ≤ (flR K).length) : ScanIs ((flR K).take cut) (K.take n) := by
  refine ⟨fun t ht => hK t (List.mem_of_mem_take ht), ((flR K).drop (flR (K.take n)).length).take (cut - (flR (K.take n)).length), ?_, ?_⟩
  · have e : flR K = flR (K.take n) ++ flR (K.drop n) := by rw [← flR_append, List.take_append_drop]
    show (flR K).take cut = flR (K.take n) ++ _
    rw [e, List.drop_left, List.take_append, List.take_of_length_le h1]
  · by_cases hlt : n < K.length
    · have h3 := h2 hlt
      have e : flR K = flR (K.take n) ++ (frB K[n] ++ flR (K.drop (n + 1))) := by rw [← List.append_assoc, ← flR_take_succ hlt, ← flR_append, List.take_append_drop]
      rw [e, List.drop_left]
      rw [flR_take_succ hlt, List.length_append] at h3
      rw [List.take_append_of_le_length (by omega)]
      refine one_part (hK _ (List.getElem_mem hlt)) (List.take_append_drop _ _).symm fun e0 => ?_
      have := congrArg List.length e0
      rw [List.length_drop, List.length_nil] at this
      omega
    · obtain rfl : n = K.length := by omega
      have e : K.take K.length = K := List.take_of_length_le (Nat.le_refl _)
      rw [e, List.drop_of_length_le (Nat.le_refl _), List.take_nil]
      exact oneP0
def eds (K : List (List UInt8)) (k : Nat) : List Value := (List.range k).map fun i => Value.int .i64 ((flR (K.take (i + 1))).length : Nat)
theorem eds_len (K : List (List UInt8)) (k : Nat) : (eds K k).length = k := by simp [eds]
theorem eds_succ (K : List (List UInt8)) (k : Nat) : eds K (k + 1) = eds K k ++ [Value.int .i64 ((flR (K.take (k + 1))).length : Nat)] := by
  unfold eds; rw [List.range_succ, List.map_append]; rfl
theorem eds_at (K : List (List UInt8)) {k i : Nat} (h : i < k) : (eds K k)[i]? = some (Value.int .i64 ((flR (K.take (i + 1))).length : Nat)) := by simp [eds, h]
theorem ob_rowI {W : World} {B C : Nat} {v u : Value} {l : List UInt8} {n : Nat} {xs : List Value} (h : OB W B v l) (k : W.ownsRow C 3 1 u n xs) : v.ownBlock = none ∨ v.ownBlock ≠ u.ownBlock := by
  rcases h.2 with ⟨rfl, _⟩ | ⟨g, cap, cur, rfl, _, hgb, _⟩
  · exact .inl rfl
  · refine .inr fun e => ?_
    rcases k.2 with ⟨rfl, _⟩ | ⟨g', cap', cur', rfl, _, hgb', _⟩
    · cases e
    · have : g = g' := by simpa [Value.ownBlock] using e
      subst this
      rw [hgb] at hgb'
      simp at hgb'
theorem rowI_ob {W : World} {B C : Nat} {v u : Value} {l : List UInt8} {n : Nat} {xs : List Value} (k : W.ownsRow C 3 1 u n xs) (h : OB W B v l) : u.ownBlock = none ∨ u.ownBlock ≠ v.ownBlock := by
  rcases ob_rowI h k with e | e
  · by_cases hu : u.ownBlock = none
    · exact .inl hu
    · exact .inr (by rw [e]; exact hu)
  · exact .inr (fun e2 => e e2.symm)
theorem rb_takeCap {w : World} {a : Option Addr} {c : Nat} {l : List UInt8} {n m : Nat} (h : RB w (.slice a n c) l) (hm : m ≤ l.length) : RB w (.slice a m m) (l.take m) := by
  obtain ⟨ao, c2, hv, hc2, hr⟩ := h
  simp only [Value.slice.injEq] at hv
  obtain ⟨rfl, rfl, rfl⟩ := hv
  have hl : (l.take m).length = m := by rw [List.length_take]; omega
  refine ⟨_, m, by rw [hl], by rw [hl]; exact Nat.le_refl _, fun hp => ?_⟩
  rw [hl] at hp
  obtain ⟨b2, off2, hb, hcell⟩ := hr (by omega)
  refine ⟨b2, off2, hb, fun j hj => ?_⟩
  rw [hl] at hj
  rw [hcell j (by omega)]
  simp
theorem bss_take {w : World} {ao : Option Addr} {L : List (Value × List UInt8)} (h : BSs w ao L) (n : Nat) : BSs w ao (L.take n) := by
  refine ⟨fun hl => ?_, fun x hx => h.2 x (List.mem_of_mem_take hx)⟩
  rw [List.length_take] at hl
  obtain ⟨b, off, e, hc⟩ := h.1 (by omega)
  refine ⟨b, off, e, fun i hi => ?_⟩
  rw [List.length_take] at hi
  rw [hc i (by omega)]
  simp
theorem infoInt9 : (Tryd.prog.info? 3).map (fun i => (i.zero, i.size, i.bytes)) = some (some (.int .i64 0), 1, 8) := by kernel_rfl
set_option maxRecDepth 100000 in
set_option maxHeartbeats 4000000 in
theorem law09_c {w : World} {lo : Option Addr} {lc : Nat} {L : List (Value × List UInt8)} (hT : Tab9 w) (hL : BSs w lo L) (hml : L.length ≤ maxLen) (hlc : L.length ≤ lc) (cut : Int) (hc1 : -9223372036854775808 ≤ cut) (hc2 : cut ≤ 9223372036854775807) :
    Calls Tryd.prog 5 #[.slice lo L.length lc, .int .i64 cut] w fun e w' => e = .returned (.bool true) ∧ Below w.heap.size w w' := by
  obtain ⟨i0, hi, hz0, hz1, hz2⟩ := info_parts infoInt9
  have HT := Lib.hid hT
  have HL := Lib.hid hL
  have hsm : Calls Tryd.prog 17 #[.slice lo L.length lc, .int .i64 40] w _ := small9 (c := lc) hL hml 40 (by decide)
  have HSm := Lib.hid hsm
  unfold maxLen at hml
  clear hT hL hsm
  go_enter Tryd.func5, Tryd.ntmps5
  go_wp2_with fail; (with_reducible refine (HSm.out).mono ?_); rintro e w1 ⟨z, rfl, hz, hb1⟩
  have HB1 := Lib.hid hb1
  have HZ := Lib.hid hz
  clear hb1 hz
  cases z with
  | false =>
    have HA := Lib.hid (awake09 (HT.out.below HB1.out))
    go_wp2_with fail; (with_reducible refine (HA.out).mono ?_); rintro e w2 ⟨rfl, hb2⟩
    go_wp2
    go_ret
    exact ⟨rfl, HB1.out.trans (hb2.mono HB1.out.size)⟩
  | true =>
    obtain ⟨h300, h40⟩ := HZ.out.1 rfl
    have H300 := Lib.hid h300
    clear h300
    obtain ⟨K, hK⟩ : ∃ K, L.map (·.2) = K := ⟨_, rfl⟩
    have hKl : K.length = L.length := by rw [← hK, List.length_map]
    have hKat : ∀ k (h : k < L.length), ∃ h2 : k < K.length, K[k] = (L[k]).2 := fun k h => ⟨by omega, by subst hK; simp⟩
    have hK3 : ∀ x ∈ K, x.length ≤ 300 := fun x hx => by
      rw [← hK] at hx
      obtain ⟨y, hy, rfl⟩ := List.mem_map.1 hx
      exact H300.out y hy
    have hKb : ∀ k, (flR (K.take k)).length ≤ 16000 := fun k => by
      have h1 := flR_small (K.take k) (fun x hx => hK3 x (List.mem_of_mem_take hx))
      rw [List.length_take] at h1
      omega
    have HKl := Lib.hid hKl
    have HKat := Lib.hid hKat
    have HKb := Lib.hid hKb
    have HK3 := Lib.hid hK3
    have HKm := Lib.hid hK
    clear hK hKl hKat hKb hK3
    go_wp2
    go_loopw [5, 6, 19] (fun v u i wr => ∃ k : Nat, k ≤ L.length ∧ i = .int .i64 k ∧ OB wr w1.heap.size v (flR (K.take k)) ∧ wr.ownsRow w1.heap.size 3 1 u k (eds K k) ∧ Below w1.heap.size w1 wr) (fun _ _ i _ => L.length - (intOf i).toNat)
    case atStart => exact ⟨0, Nat.zero_le _, rfl, OB.nil _ _, World.ownsRow_nil _ _ _ _, Below.refl _ _⟩
    case round =>
      obtain ⟨k, hk, rfl, hob, hrow, hbr⟩ := hrel
      have HOB := Lib.hid hob
      have HRow := Lib.hid hrow
      have HBr := Lib.hid hbr
      have HW := Lib.hid (HB1.out.trans (hbr.mono HB1.out.size))
      obtain ⟨av, nv, cv, rfl, hmv⟩ := hob.shape
      obtain ⟨au, cu, rfl, hcu, hmu, hgi0⟩ := row_shape hrow
      have hcg : Hid (∀ g, au = some ⟨g, 0, none⟩ → ∀ i, i < k → wr.cell? ⟨g, i, none⟩ = some (.int .i64 ((flR (K.take (i + 1))).length : Nat))) := Lib.hid fun g hg i hi => by
        have := World.ownsRow.cells hrow (g := g) (by rw [hg]; rfl) i _ (eds_at K hi)
        rwa [add_none, Nat.zero_add] at this
      have hgi := Lib.hid hgi0
      clear hgi0
      have hbd := HKb.out k
      have hbd2 := HKb.out (k + 1)
      clear hob hbr hrow
      by_cases hlt : k < L.length
      · obtain ⟨bb, off, xo, cc, rfl, hv, d0, hrb, hxm⟩ := HL.out.cell HW.out k hlt
        have hx3 := H300.out _ (List.getElem_mem hlt)
        obtain ⟨hkK, hkx⟩ := HKat.out k hlt
        have hst := flR_take_succ hkK
        rw [hkx] at hst
        have Hst := Lib.hid hst
        have HFr := Lib.hid (rframe (HT.out.below HW.out) hrb (by omega))
        have hfl2 := frB_len (L[k]).2
        have hn9 := num_len9 (n := (L[k]).2.length) (by omega)
        have HFl : Hid ((frB (L[k]).2).length ≤ 1000) := Lib.hid (by omega)
        clear hv hrb hxm hfl2 hn9 hst hkx hkK
        generalize L[k] = x at *
        go_wp2_with fail
        with_reducible refine (HFr.out).mono ?_
        rintro e w4 ⟨v4, rfl, ho4, hb4⟩
        have HO4 := Lib.hid (HOB.out.past hb4 (Nat.le_refl _))
        have HRow4 := Lib.hid (row_past HRow.out hb4 (Nat.le_refl _))
        have HB4 := Lib.hid (HBr.out.trans (hb4.mono HBr.out.size))
        have HR4 := Lib.hid ho4.reads
        have hz4 := HB4.out.size
        clear ho4 hb4
        go_wp2_with (first
          | (at_builtin; refine wpList_appr rfl (.tmp 23) (.tmp 25) rfl w1.heap.size _ _ rfl HO4.out _ _ rfl HR4.out ?_ hz4 ?_; (have := HFl.out; omega); intro v5 w5 ho5 hold ha5; rw [← Hst.out] at ho5; obtain ⟨a5, n5, c5, rfl, hm5⟩ := ho5.shape; obtain rfl := ho5.len; have HO5 := Lib.hid ho5; have HRow5 := Lib.hid (HRow4.out.kept ha5.grown (rowI_ob HRow4.out HO4.out)); have HB5 := Lib.hid (HB4.out.trans (HO4.out.below ha5 hz4)); have hz5 := HB5.out.size; clear ho5 hold ha5)
          | (at_builtin; refine wpList_appN rfl (.tmp 27) (.tmp 30) 33 3 i0 (.int .i64 0) 1 8 Tryd.underlying33 hi hz0 hz1 hz2 rfl (by decide) rfl w1.heap.size _ k (eds K k) rfl HRow5.out #[.int .i64 ((flR (K.take (k + 1))).length : Nat)] 1 1 rfl rfl (by simp [Value.oneCell']) (by unfold maxLen; omega) (by omega) hz5 ?_; intro v6 w6 ho6 _ ha6; have HO6 := Lib.hid (HO5.out.kept ha6.grown (ob_rowI HO5.out HRow5.out)); have HB6 := Lib.hid (HB5.out.grown ha6.grown hz5 (fun q hq => (World.ownsRow.lt HRow5.out q hq).1)); have HRow6 := Lib.hid ho6; clear ho6 ha6))
        go_roundw
        case rel => exact ⟨k + 1, by omega, by go_num, HO6.out, by rw [eds_succ]; exact HRow6.out, HB6.out⟩
        case measure => simp [intOf]; omega
      · obtain rfl : k = L.length := by omega
        have htk : K.take L.length = K := List.take_of_length_le (by have := HKl.out; omega)
        rw [htk] at HOB hbd
        obtain rfl := HOB.out.len
        have HKt : Hid (∀ t ∈ K, t.length < 9223372036854775808) := Lib.hid fun t ht => by have := HK3.out t ht; omega
        clear hbd2 htk
        by_cases hneg : cut < 0
        · have HA := Lib.hid (awake09 (HT.out.below HW.out))
          go_wp2_with fail; (with_reducible refine (HA.out).mono ?_); rintro e w5 ⟨rfl, hb5⟩
          go_wp2
          go_ret
          exact ⟨rfl, HW.out.trans (hb5.mono HW.out.size)⟩
        obtain ⟨m, rfl⟩ := Int.eq_ofNat_of_zero_le (Int.not_lt.1 hneg)
        by_cases hbig : (flR K).length < m
        · have HA := Lib.hid (awake09 (HT.out.below HW.out))
          have hq1 : decide (((flR K).length : Int) < (m : Int)) = true := decide_eq_true (by omega)
          go_wp2_with fail; (with_reducible refine (HA.out).mono ?_); rintro e w5 ⟨rfl, hb5⟩
          go_wp2
          go_ret
          exact ⟨rfl, HW.out.trans (hb5.mono HW.out.size)⟩
        have hmK : m ≤ (flR K).length := by omega
        have hmc : m ≤ cv := by have := HOB.out.reads.capl; omega
        have hmI : ((m : Int) < 0) = False := by simp
        go_wp2
        go_loopw [9] (fun i wx => ∃ n : Nat, n ≤ L.length ∧ i = .int .i64 n ∧ (flR (K.take n)).length ≤ m ∧ wx = wr) (fun i _ => L.length - (intOf i).toNat)
        case atStart => exact ⟨0, Nat.zero_le _, rfl, (by show 0 ≤ m; omega), (by first | rfl | trivial)⟩
        case round =>
        obtain ⟨n, hn, rfl, hnm, rfl⟩ := hrel
        by_cases hlt : n < L.length
        · obtain ⟨gi, rfl, _⟩ := hgi.out (by omega)
          have d0 := hcg.out gi rfl n hlt
          by_cases hle : (flR (K.take (n + 1))).length ≤ m
          · have Hle := Lib.hid hle
            generalize hE1 : (flR (K.take (n + 1))).length = E1 at d0 hle
            clear hE1
            go_wp2
            go_roundw
            case rel => exact ⟨n + 1, by omega, by go_num, Hle.out, (by first | rfl | trivial)⟩
            case measure => simp [intOf]; omega
          · have hgt : ∀ h0 : n < K.length, m < (flR (K.take (n + 1))).length := fun _ => by omega
            have HGt := Lib.hid hgt
            have hle2 : m < (flR (K.take (n + 1))).length := by omega
            clear hgt hle
            generalize hE1 : (flR (K.take (n + 1))).length = E1 at d0 hle2
            clear hE1
            have HIs := Lib.hid (ScanIs.cut HKt.out (n := n) (cut := m) (by have := HKl.out; omega) hnm HGt.out hmK)
            have HS5 := Lib.hid (scan_n (HT.out.below HW.out) (rb_takeCap HOB.out.reads hmK) (by omega))
            go_wp2_with fail; (with_reducible refine (HS5.out).mono ?_); rintro e w5 ⟨ys, u5, hIs5, rfl, hrow5, hb5⟩
            have hu5 := hIs5.uniq HIs.out
            obtain ⟨Q, ga, gc, hQ, rfl, hgc, hqs⟩ := hrow5.bss2
            rw [hu5] at hQ ⊢
            have HB5 := Lib.hid (HW.out.trans (hb5.mono HW.out.size))
            have HQs := Lib.hid hqs
            have hQl : Q.length = n := by
              have := congrArg List.length hQ
              rw [List.length_map, List.length_take] at this
              have := HKl.out
              omega
            have HLt := Lib.hid (bss_take (HL.out.below HB5.out) n)
            have HV : Hid (∀ (j : Nat) (h1 : j < Q.length) (h2 : j < (L.take n).length), (Q[j]).2 = ((L.take n)[j]).2) := Lib.hid fun j h1 h2 => by
              have e : Q.map (·.2) = (L.take n).map (·.2) := by rw [hQ, ← HKm.out, List.map_take]
              have := List.getElem_of_eq e (show j < (Q.map (·.2)).length by rw [List.length_map]; exact h1)
              rw [List.getElem_map, List.getElem_map] at this
              exact this
            have HQn : Hid (Q.length = (L.take n).length) := Lib.hid (by rw [List.length_take]; omega)
            have HQm : Hid (Q.length ≤ maxLen) := Lib.hid (by unfold maxLen; omega)
            have hnc : n ≤ lc := by omega
            have HB5x := Lib.hid hb5
            clear hIs5 hu5 hrow5 hb5 hqs hQ
            by_cases hn0 : 0 < n
            · have hx := trivial
              have d5 := cell_next (hcg.out gi rfl (n - 1) (by omega)) _ HB5x.out
              rw [Nat.sub_add_cancel hn0] at d5
              have hn1 : n - 1 < L.length := by omega
              have hni : (n : Int) - 1 = ((n - 1 : Nat) : Int) := by omega
              have HQL := Lib.hid hQl
              generalize (flR (K.take n)).length = E at *
              generalize n - 1 = n1 at *
              subst hQl
              go_wp2_with (first
                | (go_at_call 16; go_loud (with_reducible refine (same9 HQs.out HQm.out HLt.out HQn.out HV.out).mono ?_; rintro e w8 ⟨rfl, hb8⟩; have HB8 := Lib.hid (HB5.out.trans (hb8.mono HB5.out.size)); clear hb8))
                | (go_at_call 9; go_loud (with_reducible refine (awake09 (HT.out.below HB8.out)).mono ?_; rintro e w9 ⟨rfl, hb9⟩)))
              go_ret
              exact ⟨rfl, HB8.out.trans (hb9.mono HB8.out.size)⟩
            · obtain rfl : n = 0 := by omega
              have hE0 : (flR (K.take 0)).length = 0 := rfl
              rw [hE0]
              have hQ0 : Q = [] := List.eq_nil_of_length_eq_zero hQl
              subst hQ0
              have hsm0 : Hid (∀ W, Below w5.heap.size w5 W → Calls Tryd.prog 16 #[.slice ga 0 gc, .slice lo 0 lc] W fun e w' => e = .returned (.bool true) ∧ Below W.heap.size W w') := Lib.hid fun W hW => same9 (L := []) (M := []) ⟨fun h => absurd h (by decide), fun x hx => (nomatch hx)⟩ (by decide) ⟨fun h => absurd h (by decide), fun x hx => (nomatch hx)⟩ rfl (fun j h1 => absurd h1 (Nat.not_lt_zero _))
              go_wp2_with (first
                | (go_at_call 16; go_loud (with_reducible refine (hsm0.out _ (Below.refl _ _)).mono ?_; rintro e w8 ⟨rfl, hb8⟩; have HB8 := Lib.hid (HB5.out.trans (hb8.mono HB5.out.size)); clear hb8))
                | (go_at_call 9; go_loud (with_reducible refine (awake09 (HT.out.below HB8.out)).mono ?_; rintro e w9 ⟨rfl, hb9⟩)))
              go_ret
              exact ⟨rfl, HB8.out.trans (hb9.mono HB8.out.size)⟩
        · have hnL : n = L.length := by omega
          have HNL := Lib.hid hnL
          clear hnL
          have HIs := Lib.hid (ScanIs.cut HKt.out (n := n) (cut := m) (by have := HKl.out; omega) hnm (fun h => absurd h (by have := HKl.out; have := HNL.out; omega)) hmK)
          have HS5 := Lib.hid (scan_n (HT.out.below HW.out) (rb_takeCap HOB.out.reads hmK) (by omega))
          go_wp2_with fail; (with_reducible refine (HS5.out).mono ?_); rintro e w5 ⟨ys, u5, hIs5, rfl, hrow5, hb5⟩
          clear hlt
          have hu5 := hIs5.uniq HIs.out
          obtain ⟨Q, ga, gc, hQ, rfl, hgc, hqs⟩ := hrow5.bss2
          rw [hu5] at hQ ⊢
          have HB5 := Lib.hid (HW.out.trans (hb5.mono HW.out.size))
          have HQs := Lib.hid hqs
          have hQl : Q.length = n := by
            have := congrArg List.length hQ
            rw [List.length_map, List.length_take] at this
            have := HKl.out
            omega
          have HLt := Lib.hid (bss_take (HL.out.below HB5.out) n)
          have HV : Hid (∀ (j : Nat) (h1 : j < Q.length) (h2 : j < (L.take n).length), (Q[j]).2 = ((L.take n)[j]).2) := Lib.hid fun j h1 h2 => by
            have e : Q.map (·.2) = (L.take n).map (·.2) := by rw [hQ, ← HKm.out, List.map_take]
            have := List.getElem_of_eq e (show j < (Q.map (·.2)).length by rw [List.length_map]; exact h1)
            rw [List.getElem_map, List.getElem_map] at this
            exact this
          have HQn : Hid (Q.length = (L.take n).length) := Lib.hid (by rw [List.length_take]; omega)
          have HQm : Hid (Q.length ≤ maxLen) := Lib.hid (by unfold maxLen; omega)
          have hnc : n ≤ lc := by omega
          have HB5x := Lib.hid hb5
          clear hIs5 hu5 hrow5 hb5 hqs hQ
          by_cases hn0 : 0 < n
          · obtain ⟨gi, rfl, _⟩ := hgi.out (by omega)
            have d5 := cell_next (hcg.out gi rfl (n - 1) (by omega)) _ HB5x.out
            rw [Nat.sub_add_cancel hn0] at d5
            have hn1 : n - 1 < L.length := by omega
            have hni : (n : Int) - 1 = ((n - 1 : Nat) : Int) := by omega
            have HQL := Lib.hid hQl
            generalize (flR (K.take n)).length = E at *
            generalize n - 1 = n1 at *
            subst hQl
            go_wp2_with (first
              | (go_at_call 16; go_loud (with_reducible refine (same9 HQs.out HQm.out HLt.out HQn.out HV.out).mono ?_; rintro e w8 ⟨rfl, hb8⟩; have HB8 := Lib.hid (HB5.out.trans (hb8.mono HB5.out.size)); clear hb8))
              | (go_at_call 9; go_loud (with_reducible refine (awake09 (HT.out.below HB8.out)).mono ?_; rintro e w9 ⟨rfl, hb9⟩)))
            go_ret
            exact ⟨rfl, HB8.out.trans (hb9.mono HB8.out.size)⟩
          · obtain rfl : n = 0 := by omega
            have hE0 : (flR (K.take 0)).length = 0 := rfl
            rw [hE0]
            have hQ0 : Q = [] := List.eq_nil_of_length_eq_zero hQl
            subst hQ0
            have hsm0 : Hid (∀ W, Below w5.heap.size w5 W → Calls Tryd.prog 16 #[.slice ga 0 gc, .slice lo 0 lc] W fun e w' => e = .returned (.bool true) ∧ Below W.heap.size W w') := Lib.hid fun W hW => same9 (L := []) (M := []) ⟨fun h => absurd h (by decide), fun x hx => (nomatch hx)⟩ (by decide) ⟨fun h => absurd h (by decide), fun x hx => (nomatch hx)⟩ rfl (fun j h1 => absurd h1 (Nat.not_lt_zero _))
            go_wp2_with (first
              | (go_at_call 16; go_loud (with_reducible refine (hsm0.out _ (Below.refl _ _)).mono ?_; rintro e w8 ⟨rfl, hb8⟩; have HB8 := Lib.hid (HB5.out.trans (hb8.mono HB5.out.size)); clear hb8))
              | (go_at_call 9; go_loud (with_reducible refine (awake09 (HT.out.below HB8.out)).mono ?_; rintro e w9 ⟨rfl, hb9⟩)))
            go_ret
            exact ⟨rfl, HB8.out.trans (hb9.mono HB8.out.size)⟩
end Go.Proofs.YtkflingpogokcaaDoor
