/- Chapter 14: VlogLists. -/
import Derived.Test.YtmhklmecpbdljaaDoorYJk
namespace Go.Proofs.YtmhklmecpbdljaaDoor
open Go.RowKit Go.Shelf
set_option linter.unusedVariables false
set_option linter.unusedSimpArgs false

/-- the log over zone 2 and the items that are wanted -/
def LsI (w wr : World) (l : List It) (q p m : Nat) (v : Value) (D : Dv) (F : Nat → Prop) (K : List (List UInt8)) (WL : List It) : Prop :=
  One 2 D (flR K) ∧ (flR K).length ≤ 400 ∧ D.done ≤ 2 * m ∧ LI wr w.heap.size q p F D ([] ++ [2]) ∧ (∀ t ∈ K, t.length ≤ 1000000) ∧ (vlist 2 0 K).map Vv.x = WL ∧ wr.ownsRow w.heap.size 37 4 v WL.length (itvs WL) ∧ (∀ x, v.ownBlock = some x → ¬ F x) ∧ WL.length ≤ m ∧ Below w.heap.size w wr
set_option maxRecDepth 100000 in
set_option maxHeartbeats 16000000 in
theorem law14_l {w : World} (hT : Tab9 w) {a ja ra : Option Addr} {c jc rc : Nat} {l : List It} {J : List (Value × List UInt8)} {R : List UInt8} (h : VIs w a l) (hl : l.length ≤ maxLen) (hJ : BSs w ja J) (hJl : J.length ≤ maxLen) (hR : RB w (.slice ra R.length rc) R) (hRm : R.length ≤ maxLen) :
    Calls Tryd.prog 7 #[.slice a l.length c, .slice ja J.length jc, .slice ra R.length rc] w fun e w' => e = .returned (.bool true) ∧ Below w.heap.size w w' := by
  have hlm := hl
  unfold maxLen at hl hJl hRm
  have HT := Lib.hid hT
  have H := Lib.hid h
  have HJ := Lib.hid hJ
  have HR := Lib.hid hR
  clear hT h hJ hR
  go_enter Tryd.func7, Tryd.ntmps7
  go_wp2_with fail; (with_reducible refine (device14 w).mono ?_); rintro e w1 ⟨p, F1, rfl, hD1, hb1⟩
  have HB1 := Lib.hid hb1
  have HD1 := Lib.hid hD1
  have hsm : Calls Tryd.prog 10 #[.slice a l.length c] w1 (Small14 w1 l) := small14 (H.out.below hb1) hlm
  have HSm := Lib.hid hsm
  clear hb1 hD1 hsm
  go_wp2_with fail; (with_reducible refine (HSm.out).mono ?_); rintro e w2 ⟨sm, rfl, hsz, hb2⟩
  have HB2 := Lib.hid (HB1.out.trans (hb2.mono HB1.out.size))
  have HD2 := Lib.hid (HD1.out.below hb2)
  have HA := Lib.hid (awake14 (HT.out.below HB2.out))
  have HSZ := Lib.hid hsz
  clear hb2 hsz HSm HD1 HB1
  have h4 : sm = false ∨ (sm = true ∧ 30 < J.length) ∨ (sm = true ∧ J.length ≤ 30 ∧ 100 < R.length) ∨ (sm = true ∧ J.length ≤ 30 ∧ R.length ≤ 100) := by
    cases sm with
    | false => exact .inl rfl
    | true =>
      rcases Nat.lt_or_ge 30 J.length with h | h
      · exact .inr (.inl ⟨rfl, h⟩)
      · rcases Nat.lt_or_ge 100 R.length with h2 | h2
        · exact .inr (.inr (.inl ⟨rfl, h, h2⟩))
        · exact .inr (.inr (.inr ⟨rfl, h, h2⟩))
  rcases h4 with rfl | ⟨rfl, h1⟩ | ⟨rfl, h1, h2⟩ | ⟨rfl, h1, h2⟩
  · go_wp2_with fail; (with_reducible refine (HA.out).mono ?_); rintro e w3 ⟨rfl, hb3⟩
    go_wp2
    go_ret
    exact ⟨rfl, HB2.out.trans (hb3.mono HB2.out.size)⟩
  · go_wp2_with fail; (with_reducible refine (HA.out).mono ?_); rintro e w3 ⟨rfl, hb3⟩
    go_wp2
    go_ret
    exact ⟨rfl, HB2.out.trans (hb3.mono HB2.out.size)⟩
  · go_wp2_with fail; (with_reducible refine (HA.out).mono ?_); rintro e w3 ⟨rfl, hb3⟩
    go_wp2
    go_ret
    exact ⟨rfl, HB2.out.trans (hb3.mono HB2.out.size)⟩
  · obtain ⟨hsmall, hlc⟩ := HSZ.out.1 rfl
    have HSmall := Lib.hid hsmall
    have hba := (Below.refl w2.heap.size w2).alloc (Nat.le_refl _) (.cells #[.int .i64 2] 3)
    have HBA := Lib.hid hba
    have hnew : Calls Tryd.prog 12 #[.pointer (some ⟨p, 0, none⟩), .slice (some ⟨w2.heap.size, 0, none⟩) 1 1] (w2.alloc (.cells #[.int .i64 2] 3)) fun e w' => ∃ q F, e = .returned (.pointer (some ⟨q, 0, none⟩)) ∧ LI w' w.heap.size q p F (dv0 4 400 4) ([] ++ [2]) ∧ Below (w2.alloc (.cells #[.int .i64 2] 3)).heap.size (w2.alloc (.cells #[.int .i64 2] 3)) w' := lnew (zs := [2]) (c := 1) (HD2.out.below hba) (kz_one w2 2) (fun h => by simp at h) (by decide)
    have HNew := Lib.hid hnew
    clear hnew hba hsmall HA
    go_wp2_with fail; (with_reducible refine (HNew.out).mono ?_); rintro e w3 ⟨q, F3, rfl, hL3, hb3⟩
    have HL3 := Lib.hid hL3
    have HB3 := Lib.hid (HB2.out.trans ((HBA.out.trans (hb3.mono HBA.out.size)).mono HB2.out.size))
    clear hL3 hb3 HNew HD2 HB2 HBA
    go_wp2
    go_loopw [9, 52] (fun v i wr => ∃ (m : Nat) (D : Dv) (F : Nat → Prop) (K : List (List UInt8)) (WL : List It), m ≤ l.length ∧ i = .int .i64 m ∧ LsI w wr l q p m v D F K WL) (fun _ i _ => l.length - (intOf i).toNat)
    case atStart => exact ⟨0, dv0 4 400 4, F3, [], [], Nat.zero_le _, rfl, One.new (by decide), by simp [flR], Nat.le_refl _, HL3.out, fun t ht => (nomatch ht), rfl, World.ownsRow_nil _ _ _ _, fun x hx => by simp [Value.ownBlock] at hx, Nat.le_refl _, HB3.out⟩
    case round =>
      clear HL3 HB3
      obtain ⟨m, D, F, K, WL, hm, rfl, hO, hL4, hdn, hli, hKt, hWL, hrow, hap, hWm, hbr⟩ := hrel
      obtain ⟨va, vc, rfl, hvc, _⟩ := row_shape hrow
      have HO := Lib.hid hO
      have HL := Lib.hid hli
      have HBr := Lib.hid hbr
      have HKt := Lib.hid hKt
      have HWL := Lib.hid hWL
      have HRow := Lib.hid hrow
      have HAp := Lib.hid hap
      clear hO hli hKt hWL hrow hap
      by_cases hlt : m < l.length
      · obtain ⟨b, off, rfl, d0, d1, d2, d3, hok⟩ := H.out.cell hbr m hlt
        have hsx := HSmall.out _ (List.getElem_mem hlt)
        clear hok
        generalize l[m] = x at *
        have hxv : x.v.size ≤ 500 := hsx.2
        have hbx := (Below.refl wr.heap.size wr).alloc (Nat.le_refl _) (.cells #[.string x.u, .int .i64 x.s, .int .i64 x.k, .string x.v] 37)
        have HB5 := Lib.hid (hbr.trans (hbx.mono hbr.size))
        obtain ⟨y0, y1, y2, y3⟩ := cells4n (w := wr) (a := .string x.u) (b := .int .i64 x.s) (c := .int .i64 x.k) (d := .string x.v) (T := 37)
        have HL5 := Lib.hid (HL.out.below hbx)
        have HRow5 := Lib.hid (row_past HRow.out hbx (Nat.le_refl _))
        have hwz : wr.heap.size < (wr.alloc (.cells #[.string x.u, .int .i64 x.s, .int .i64 x.k, .string x.v] 37)).heap.size := by simp
        have hfz : ∀ k, F k → k < wr.heap.size := fun k hk => (HL.out.ge k hk).2
        have HFz := Lib.hid hfz
        go_upto_region 11 with (fail)
        clear d0 d1 d2 d3 hbx hsx hfz HRow
        generalize wr.alloc (.cells #[.string x.u, .int .i64 x.s, .int .i64 x.k, .string x.v] 37) = w5 at *
        obtain ⟨tq, htq⟩ : ∃ tq, wr.heap.size = tq := ⟨_, rfl⟩
        rw [htq] at y0 y1 y2 y3 hwz HFz ⊢
        have HBr' := HBr
        clear htq HL hbr
        have hj3 : J.length ≤ m ∨ (∃ hj : m < J.length, 50 < (J[m]).2.length) ∨ (∃ hj : m < J.length, (J[m]).2.length ≤ 50) := by
          rcases Nat.lt_or_ge m J.length with hj | hj
          · rcases Nat.lt_or_ge 50 (J[m]).2.length with h | h
            · exact .inr (.inl ⟨hj, h⟩)
            · exact .inr (.inr ⟨hj, h⟩)
          · exact .inl hj
        rcases hj3 with hj | ⟨hj, hj5⟩ | ⟨hj, hj5⟩
        · skip
          obtain ⟨K2, hO2, hL2, hK2, hv2⟩ : ∃ K2, One 2 D (flR K2) ∧ (flR K2).length ≤ 400 ∧ (∀ t ∈ K2, t.length ≤ 1000000) ∧ (vlist 2 0 K2).map Vv.x = WL := ⟨K, HO.out, hL4, HKt.out, HWL.out⟩
          obtain ⟨D2, hD2⟩ : ∃ D2, D2 = D := ⟨_, rfl⟩
          obtain ⟨F8, hF8⟩ : ∃ F8, F8 = F := ⟨_, rfl⟩
          have hd2 : D2.done ≤ D.done + 1 := by rw [hD2]; omega
          have hl8 := HL5.out
          have hrow8 := HRow5.out
          have hap8 := HAp.out
          have hF8z : ∀ k, F8 k → k ≠ tq := fun k hf => by rw [hF8] at hf; have := HFz.out k hf; omega
          rw [← hD2] at hO2 hl8
          rw [← hF8] at hl8 hap8
          have HBq := HB5
          have t0 := y0
          have t1 := y1
          have t2 := y2
          have t3 := y3
          clear hD2 hF8
          obtain ⟨D9, L9, zz, aa, nn, er, hcase, hL9, hO9, hdn9, hput⟩ := hO2.put_it hL2 hl8 (HT.out.below HBq.out) x (by omega) (by omega)
          have HPut := Lib.hid hput
          have HO9 := Lib.hid hO9
          have HL8 := Lib.hid hl8
          have HRow8 := Lib.hid hrow8
          have HAp8 := Lib.hid hap8
          have HF8z := Lib.hid hF8z
          have HK2 := Lib.hid hK2
          have HV2 := Lib.hid hv2
          have HCase := Lib.hid hcase
          have hdn3 : D9.done ≤ 2 * (m + 1) := by omega
          clear hput hO9 hl8 hrow8 hap8 hF8z hK2 hv2 hcase hO2 HO HL5 HRow5 HAp HWL HKt
          go_wp2_with fail
          with_reducible refine (HPut.out).mono ?_
          rintro e w9 ⟨rfl, ho9⟩
          have hrow9 := row_same HRow8.out fun k hk => ho9.2.block k (World.ownsRow.lt HRow8.out k hk).2 (HAp8.out k hk)
          have s0 := cell_chgv (F := F8) t0 ho9.2 (fun hf => HF8z.out _ hf rfl)
          have s1 := cell_chgv (F := F8) t1 ho9.2 (fun hf => HF8z.out _ hf rfl)
          have s2 := cell_chgv (F := F8) t2 ho9.2 (fun hf => HF8z.out _ hf rfl)
          have s3 := cell_chgv (F := F8) t3 ho9.2 (fun hf => HF8z.out _ hf rfl)
          have hb9 := ho9.below HL8.out.ge HL8.out.room
          obtain ⟨⟨F9, hl9, hF9⟩, _⟩ := ho9
          have HAp9 : Hid (∀ y, (Value.slice va WL.length vc).ownBlock = some y → ¬ F9 y) := Lib.hid fun y hy hf => by
            rcases hF9 y hf with h | h
            · exact HAp8.out y hy h
            · have := (World.ownsRow.lt HRow8.out y hy).2; omega
          have hbp := (Below.refl w9.heap.size w9).alloc (Nat.le_refl _) (.cells #[.int .i64 zz, .int .i64 aa, .int .i64 nn] 25)
          have HB10 := Lib.hid ((HBq.out.trans hb9).trans (hbp.mono (HBq.out.trans hb9).size))
          have HL10 := Lib.hid (hl9.below hbp)
          have HRow10 := Lib.hid (row_past hrow9 hbp (Nat.le_refl _))
          have v0 := cell_next s0 _ hbp
          have v1 := cell_next s1 _ hbp
          have v2 := cell_next s2 _ hbp
          have v3 := cell_next s3 _ hbp
          have hz10 := HB10.out.size
          clear t0 t1 t2 t3 s0 s1 s2 s3 hrow9 hb9 hl9 hF9 HPut HL8 HRow8 HAp8 HF8z HBq y0 y1 y2 y3
          rcases HCase.out with ⟨her, hkr, hL, hzn⟩ | ⟨her, hL⟩
          · subst her
            subst hL
            have hvr := vdec_rec (v := x.v) hkr (by omega)
            have HK3 : Hid (∀ v' w', w'.ownsRow w.heap.size 37 4 v' (WL.length + 1) (itvs WL ++ [.string x.u, .int .i64 x.s, .int .i64 x.k, .string x.v]) → App (w9.alloc (.cells #[.int .i64 zz, .int .i64 aa, .int .i64 nn] 25)) w' (.slice va WL.length vc) v' → LsI w w' l q p (m + 1) v' D9 F9 (K2 ++ [recB x.u x.s x.k x.v]) (WL ++ [x])) := Lib.hid fun v' w' h1 h2 => by
              have hrl := recB_len hkr x.v (by omega)
              have hvo : ∀ at', vone 2 at' (recB x.u x.s x.k x.v) = [⟨⟨x.u, x.s, x.k, x.v⟩, 2, (at' : Nat), ((recB x.u x.s x.k x.v).length : Nat)⟩] := fun at' => by unfold vone; rw [hvr]
              refine ⟨by rw [flR_snoc]; exact HO9.out, by rw [flR_snoc]; exact hL9, hdn3, HL10.out.chg (Chg.of_app h2) (fun k hk e => HAp9.out k e hk), fun t ht => ?_, ?_, by rw [itvs_snoc, List.length_append]; exact h1, fun y hy hf => ?_, by rw [List.length_append, List.length_singleton]; omega, HB10.out.trans ((Chg.of_app h2).below (fun k hk => (World.ownsRow.lt HRow10.out k hk).1) hz10)⟩
              · rcases List.mem_append.1 ht with ht | ht
                · exact HK2.out t ht
                · obtain rfl : t = recB x.u x.s x.k x.v := by simpa using ht
                  omega
              · rw [vlist_append, vlist_one, hvo, List.map_append, HV2.out]; rfl
              · rcases h2.lies with e | ⟨g, e, hg⟩
                · exact HAp9.out y (by rw [← e]; exact hy) hf
                · rw [e] at hy; cases hy; have := (HL10.out.ge _ hf).2; omega
            obtain ⟨i0, hi, hz0, hz1, hz2⟩ := info_parts infoIt
            have hWl : WL.length ≤ 1000 := by omega
            clear hkr hvr hL9 hdn9 hzn
            go_wp2_with (at_builtin; go_loud (refine wpList_appN rfl (.tmp 88) (.tmp 90) 22 37 i0 (.agg #[.string ⟨#[]⟩, .int .i64 0, .int .i64 0, .string ⟨#[]⟩]) 4 48 Tryd.underlying22 hi hz0 hz1 hz2 rfl (by decide) rfl w.heap.size _ WL.length (itvs WL) rfl HRow10.out #[.string x.u, .int .i64 x.s, .int .i64 x.k, .string x.v] 1 1 (by first | rfl | (simp; done) | (simp; rfl)) rfl (by simp [Value.oneCell']) (by unfold maxLen; omega) (by omega) hz10 ?_); intro v11 w11 ho11 _ ha11; have HX := Lib.hid (HK3.out _ _ ho11 ha11); clear ho11 ha11)
            go_roundw
            case rel => exact ⟨m + 1, D9, F9, K2 ++ [recB x.u x.s x.k x.v], WL ++ [x], by omega, by go_num, HX.out⟩
            case measure => simp [intOf]; omega
          · have hne : (er == 0) = false := by rw [beq_eq_false_iff_ne]; exact her
            subst hL
            have HX : Hid (LsI w (w9.alloc (.cells #[.int .i64 zz, .int .i64 aa, .int .i64 nn] 25)) l q p (m + 1) (.slice va WL.length vc) D9 F9 K2 WL) := Lib.hid ⟨HO9.out, hL9, hdn3, HL10.out, HK2.out, HV2.out, HRow10.out, HAp9.out, by omega, HB10.out⟩
            clear her hL9 hdn9
            go_wp2
            go_roundw
            case rel => exact ⟨m + 1, D9, F9, K2, WL, by omega, by go_num, HX.out⟩
            case measure => simp [intOf]; omega
        · skip
          obtain ⟨jb, jo, jao, jcc, rfl, hjv, j0, hjr, hjm⟩ := HJ.out.cell HB5.out m hj
          clear hjv
          generalize (J[m]).2 = jt at *
          clear hjm
          obtain ⟨K2, hO2, hL2, hK2, hv2⟩ : ∃ K2, One 2 D (flR K2) ∧ (flR K2).length ≤ 400 ∧ (∀ t ∈ K2, t.length ≤ 1000000) ∧ (vlist 2 0 K2).map Vv.x = WL := ⟨K, HO.out, hL4, HKt.out, HWL.out⟩
          obtain ⟨D2, hD2⟩ : ∃ D2, D2 = D := ⟨_, rfl⟩
          obtain ⟨F8, hF8⟩ : ∃ F8, F8 = F := ⟨_, rfl⟩
          have hd2 : D2.done ≤ D.done + 1 := by rw [hD2]; omega
          have hl8 := HL5.out
          have hrow8 := HRow5.out
          have hap8 := HAp.out
          have hF8z : ∀ k, F8 k → k ≠ tq := fun k hf => by rw [hF8] at hf; have := HFz.out k hf; omega
          rw [← hD2] at hO2 hl8
          rw [← hF8] at hl8 hap8
          have HBq := HB5
          have t0 := y0
          have t1 := y1
          have t2 := y2
          have t3 := y3
          clear hD2 hF8
          obtain ⟨D9, L9, zz, aa, nn, er, hcase, hL9, hO9, hdn9, hput⟩ := hO2.put_it hL2 hl8 (HT.out.below HBq.out) x (by omega) (by omega)
          have HPut := Lib.hid hput
          have HO9 := Lib.hid hO9
          have HL8 := Lib.hid hl8
          have HRow8 := Lib.hid hrow8
          have HAp8 := Lib.hid hap8
          have HF8z := Lib.hid hF8z
          have HK2 := Lib.hid hK2
          have HV2 := Lib.hid hv2
          have HCase := Lib.hid hcase
          have hdn3 : D9.done ≤ 2 * (m + 1) := by omega
          clear hput hO9 hl8 hrow8 hap8 hF8z hK2 hv2 hcase hO2 HO HL5 HRow5 HAp HWL HKt
          go_wp2_with fail
          with_reducible refine (HPut.out).mono ?_
          rintro e w9 ⟨rfl, ho9⟩
          have hrow9 := row_same HRow8.out fun k hk => ho9.2.block k (World.ownsRow.lt HRow8.out k hk).2 (HAp8.out k hk)
          have s0 := cell_chgv (F := F8) t0 ho9.2 (fun hf => HF8z.out _ hf rfl)
          have s1 := cell_chgv (F := F8) t1 ho9.2 (fun hf => HF8z.out _ hf rfl)
          have s2 := cell_chgv (F := F8) t2 ho9.2 (fun hf => HF8z.out _ hf rfl)
          have s3 := cell_chgv (F := F8) t3 ho9.2 (fun hf => HF8z.out _ hf rfl)
          have hb9 := ho9.below HL8.out.ge HL8.out.room
          obtain ⟨⟨F9, hl9, hF9⟩, _⟩ := ho9
          have HAp9 : Hid (∀ y, (Value.slice va WL.length vc).ownBlock = some y → ¬ F9 y) := Lib.hid fun y hy hf => by
            rcases hF9 y hf with h | h
            · exact HAp8.out y hy h
            · have := (World.ownsRow.lt HRow8.out y hy).2; omega
          have hbp := (Below.refl w9.heap.size w9).alloc (Nat.le_refl _) (.cells #[.int .i64 zz, .int .i64 aa, .int .i64 nn] 25)
          have HB10 := Lib.hid ((HBq.out.trans hb9).trans (hbp.mono (HBq.out.trans hb9).size))
          have HL10 := Lib.hid (hl9.below hbp)
          have HRow10 := Lib.hid (row_past hrow9 hbp (Nat.le_refl _))
          have v0 := cell_next s0 _ hbp
          have v1 := cell_next s1 _ hbp
          have v2 := cell_next s2 _ hbp
          have v3 := cell_next s3 _ hbp
          have hz10 := HB10.out.size
          clear t0 t1 t2 t3 s0 s1 s2 s3 hrow9 hb9 hl9 hF9 HPut HL8 HRow8 HAp8 HF8z HBq y0 y1 y2 y3
          rcases HCase.out with ⟨her, hkr, hL, hzn⟩ | ⟨her, hL⟩
          · subst her
            subst hL
            have hvr := vdec_rec (v := x.v) hkr (by omega)
            have HK3 : Hid (∀ v' w', w'.ownsRow w.heap.size 37 4 v' (WL.length + 1) (itvs WL ++ [.string x.u, .int .i64 x.s, .int .i64 x.k, .string x.v]) → App (w9.alloc (.cells #[.int .i64 zz, .int .i64 aa, .int .i64 nn] 25)) w' (.slice va WL.length vc) v' → LsI w w' l q p (m + 1) v' D9 F9 (K2 ++ [recB x.u x.s x.k x.v]) (WL ++ [x])) := Lib.hid fun v' w' h1 h2 => by
              have hrl := recB_len hkr x.v (by omega)
              have hvo : ∀ at', vone 2 at' (recB x.u x.s x.k x.v) = [⟨⟨x.u, x.s, x.k, x.v⟩, 2, (at' : Nat), ((recB x.u x.s x.k x.v).length : Nat)⟩] := fun at' => by unfold vone; rw [hvr]
              refine ⟨by rw [flR_snoc]; exact HO9.out, by rw [flR_snoc]; exact hL9, hdn3, HL10.out.chg (Chg.of_app h2) (fun k hk e => HAp9.out k e hk), fun t ht => ?_, ?_, by rw [itvs_snoc, List.length_append]; exact h1, fun y hy hf => ?_, by rw [List.length_append, List.length_singleton]; omega, HB10.out.trans ((Chg.of_app h2).below (fun k hk => (World.ownsRow.lt HRow10.out k hk).1) hz10)⟩
              · rcases List.mem_append.1 ht with ht | ht
                · exact HK2.out t ht
                · obtain rfl : t = recB x.u x.s x.k x.v := by simpa using ht
                  omega
              · rw [vlist_append, vlist_one, hvo, List.map_append, HV2.out]; rfl
              · rcases h2.lies with e | ⟨g, e, hg⟩
                · exact HAp9.out y (by rw [← e]; exact hy) hf
                · rw [e] at hy; cases hy; have := (HL10.out.ge _ hf).2; omega
            obtain ⟨i0, hi, hz0, hz1, hz2⟩ := info_parts infoIt
            have hWl : WL.length ≤ 1000 := by omega
            clear hkr hvr hL9 hdn9 hzn
            go_wp2_with (at_builtin; go_loud (refine wpList_appN rfl (.tmp 88) (.tmp 90) 22 37 i0 (.agg #[.string ⟨#[]⟩, .int .i64 0, .int .i64 0, .string ⟨#[]⟩]) 4 48 Tryd.underlying22 hi hz0 hz1 hz2 rfl (by decide) rfl w.heap.size _ WL.length (itvs WL) rfl HRow10.out #[.string x.u, .int .i64 x.s, .int .i64 x.k, .string x.v] 1 1 (by first | rfl | (simp; done) | (simp; rfl)) rfl (by simp [Value.oneCell']) (by unfold maxLen; omega) (by omega) hz10 ?_); intro v11 w11 ho11 _ ha11; have HX := Lib.hid (HK3.out _ _ ho11 ha11); clear ho11 ha11)
            go_roundw
            case rel => exact ⟨m + 1, D9, F9, K2 ++ [recB x.u x.s x.k x.v], WL ++ [x], by omega, by go_num, HX.out⟩
            case measure => simp [intOf]; omega
          · have hne : (er == 0) = false := by rw [beq_eq_false_iff_ne]; exact her
            subst hL
            have HX : Hid (LsI w (w9.alloc (.cells #[.int .i64 zz, .int .i64 aa, .int .i64 nn] 25)) l q p (m + 1) (.slice va WL.length vc) D9 F9 K2 WL) := Lib.hid ⟨HO9.out, hL9, hdn3, HL10.out, HK2.out, HV2.out, HRow10.out, HAp9.out, by omega, HB10.out⟩
            clear her hL9 hdn9
            go_wp2
            go_roundw
            case rel => exact ⟨m + 1, D9, F9, K2, WL, by omega, by go_num, HX.out⟩
            case measure => simp [intOf]; omega
        · skip
          obtain ⟨jb, jo, jao, jcc, rfl, hjv, j0, hjr, hjm⟩ := HJ.out.cell HB5.out m hj
          clear hjv
          generalize (J[m]).2 = jt at *
          clear hjm
          have HJr := Lib.hid hjr
          have hlit : OB (w5.alloc (.cells #[.int .u8 120] 5)) w5.heap.size (.slice (some ⟨w5.heap.size, 0, none⟩) 1 1) [120] := ob_lit (w := w5) (cs := #[.int .u8 120]) (l := [120]) rfl (by decide)
          have hb56 := (Below.refl w5.heap.size w5).alloc (Nat.le_refl _) (.cells #[.int .u8 120] 5)
          have HLit := Lib.hid (hlit.mono HB5.out.size)
          have HJr6 := Lib.hid (hjr.below hb56)
          have j6 := cell_next j0 _ hb56
          have HB6 := Lib.hid (HB5.out.trans (hb56.mono HB5.out.size))
          have hz6 := HB6.out.size
          have HB56 := Lib.hid hb56
          have hone : (1 : Nat) + jt.length ≤ 140737488355328 := by omega
          obtain ⟨D2, z2, a2, n2, e2, hA2, hC2⟩ := HO.out.log hL4 HL5.out (HT.out.below HB5.out) (120 :: jt) (by rw [List.length_cons]; omega) (by omega)
          have HC2 : Hid (∀ (W : World) (v : Value), Below w5.heap.size w5 W → OB W w.heap.size v ([120] ++ jt) → Calls Tryd.prog 29 #[.pointer (some ⟨q, 0, none⟩), v] W fun e w' => e = .returned (.tuple #[.int .i64 z2, .int .i64 a2, .int .i64 e2]) ∧ LOut W w.heap.size q p F D2 ([] ++ [2]) w') := Lib.hid fun W v hW hv => by
            obtain ⟨ao, n, c', rfl, _⟩ := hv.shape
            obtain rfl := hv.len
            exact hC2 W ao c' hW hv.reads
          have HA2 := Lib.hid hA2
          clear hlit hb56 hjr hA2 hC2
          have HZ : Hid (∀ v7 w7, OB w7 w.heap.size v7 ([120] ++ jt) → App (w5.alloc (.cells #[.int .u8 120] 5)) w7 (.slice (some ⟨w5.heap.size, 0, none⟩) 1 1) v7 → Below w5.heap.size w5 w7) := Lib.hid fun v7 w7 h1 h2 => HB56.out.grown h2.grown (by simp) (fun k hk => by
            have : w5.heap.size = k := by simpa [Value.ownBlock] using hk
            omega)
          go_wp2_with (at_builtin; go_loud (refine wpList_appr rfl (.tmp 70) (.tmp 74) rfl w.heap.size _ [120] rfl HLit.out _ jt rfl HJr6.out hone hz6 ?_); intro v7 w7 ho7 hold ha7; have HB57 := Lib.hid (HZ.out _ _ ho7 ha7); have HO7 := Lib.hid ho7; obtain ⟨a7, n7, c7, rfl, hm7⟩ := ho7.shape; clear ho7 hold ha7)
          with_reducible refine (HC2.out _ _ HB57.out HO7.out).mono ?_
          rintro e w8 ⟨rfl, ho8⟩
          have ho5 := LOut.after HB57.out (fun k hk => by have := HFz.out k hk; omega) ho8
          have hb58 := ho5.below HL5.out.ge HL5.out.room
          have hrow8 := row_same HRow5.out fun k hk => ho5.2.block k (World.ownsRow.lt HRow5.out k hk).2 (HAp.out k hk)
          have t0 := cell_chgv (F := F) y0 ho5.2 (fun hf => by have := HFz.out _ hf; omega)
          have t1 := cell_chgv (F := F) y1 ho5.2 (fun hf => by have := HFz.out _ hf; omega)
          have t2 := cell_chgv (F := F) y2 ho5.2 (fun hf => by have := HFz.out _ hf; omega)
          have t3 := cell_chgv (F := F) y3 ho5.2 (fun hf => by have := HFz.out _ hf; omega)
          obtain ⟨⟨F8, hl8, hF8⟩, hc8⟩ := ho5
          have hap8 : ∀ y, (Value.slice va WL.length vc).ownBlock = some y → ¬ F8 y := fun y hy hf => by
            rcases hF8 y hf with h | h
            · exact HAp.out y hy h
            · have := (World.ownsRow.lt HRow5.out y hy).2; omega
          have hF8z : ∀ k, F8 k → k ≠ tq := fun k hf => by
            rcases hF8 k hf with h | h
            · have := HFz.out k h; omega
            · omega
          obtain ⟨K2, hO2, hL2, hK2, hv2⟩ : ∃ K2, One 2 D2 (flR K2) ∧ (flR K2).length ≤ 400 ∧ (∀ t ∈ K2, t.length ≤ 1000000) ∧ (vlist 2 0 K2).map Vv.x = WL := by
            rcases HA2.out with ⟨_, _, _, _, h5, h6, _⟩ | ⟨_, _, _, _, rfl, _⟩ | ⟨_, _, _, _, rfl, _⟩
            · refine ⟨K ++ [120 :: jt], by rw [flR_snoc]; exact h6, by rw [flR_snoc, List.length_append]; exact h5, fun t ht => ?_, ?_⟩
              · rcases List.mem_append.1 ht with ht | ht
                · exact HKt.out t ht
                · obtain rfl : t = 120 :: jt := by simpa using ht
                  rw [List.length_cons]; omega
              · have hvo : ∀ at', vone 2 at' (120 :: jt) = [] := fun at' => by unfold vone; rw [junk_none hj5]
                rw [vlist_append, vlist_one, hvo, List.append_nil]; exact HWL.out
            · exact ⟨K, HO.out, hL4, HKt.out, HWL.out⟩
            · exact ⟨K, HO.out, hL4, HKt.out, HWL.out⟩
          have hd2 : D2.done ≤ D.done + 1 := by
            rcases HA2.out with ⟨_, _, _, _, _, _, h7⟩ | ⟨_, _, _, _, rfl, _⟩ | ⟨_, _, _, _, rfl, _⟩
            · omega
            · omega
            · omega
          have HBq := Lib.hid (HB5.out.trans hb58)
          obtain ⟨D9, L9, zz, aa, nn, er, hcase, hL9, hO9, hdn9, hput⟩ := hO2.put_it hL2 hl8 (HT.out.below HBq.out) x (by omega) (by omega)
          have HPut := Lib.hid hput
          have HO9 := Lib.hid hO9
          have HL8 := Lib.hid hl8
          have HRow8 := Lib.hid hrow8
          have HAp8 := Lib.hid hap8
          have HF8z := Lib.hid hF8z
          have HK2 := Lib.hid hK2
          have HV2 := Lib.hid hv2
          have HCase := Lib.hid hcase
          have hdn3 : D9.done ≤ 2 * (m + 1) := by omega
          clear hput hO9 hl8 hrow8 hap8 hF8z hK2 hv2 hcase hO2 HO HL5 HRow5 HAp HWL HKt
          go_wp2_with fail
          with_reducible refine (HPut.out).mono ?_
          rintro e w9 ⟨rfl, ho9⟩
          have hrow9 := row_same HRow8.out fun k hk => ho9.2.block k (World.ownsRow.lt HRow8.out k hk).2 (HAp8.out k hk)
          have s0 := cell_chgv (F := F8) t0 ho9.2 (fun hf => HF8z.out _ hf rfl)
          have s1 := cell_chgv (F := F8) t1 ho9.2 (fun hf => HF8z.out _ hf rfl)
          have s2 := cell_chgv (F := F8) t2 ho9.2 (fun hf => HF8z.out _ hf rfl)
          have s3 := cell_chgv (F := F8) t3 ho9.2 (fun hf => HF8z.out _ hf rfl)
          have hb9 := ho9.below HL8.out.ge HL8.out.room
          obtain ⟨⟨F9, hl9, hF9⟩, _⟩ := ho9
          have HAp9 : Hid (∀ y, (Value.slice va WL.length vc).ownBlock = some y → ¬ F9 y) := Lib.hid fun y hy hf => by
            rcases hF9 y hf with h | h
            · exact HAp8.out y hy h
            · have := (World.ownsRow.lt HRow8.out y hy).2; omega
          have hbp := (Below.refl w9.heap.size w9).alloc (Nat.le_refl _) (.cells #[.int .i64 zz, .int .i64 aa, .int .i64 nn] 25)
          have HB10 := Lib.hid ((HBq.out.trans hb9).trans (hbp.mono (HBq.out.trans hb9).size))
          have HL10 := Lib.hid (hl9.below hbp)
          have HRow10 := Lib.hid (row_past hrow9 hbp (Nat.le_refl _))
          have v0 := cell_next s0 _ hbp
          have v1 := cell_next s1 _ hbp
          have v2 := cell_next s2 _ hbp
          have v3 := cell_next s3 _ hbp
          have hz10 := HB10.out.size
          clear t0 t1 t2 t3 s0 s1 s2 s3 hrow9 hb9 hl9 hF9 HPut HL8 HRow8 HAp8 HF8z HBq y0 y1 y2 y3
          rcases HCase.out with ⟨her, hkr, hL, hzn⟩ | ⟨her, hL⟩
          · subst her
            subst hL
            have hvr := vdec_rec (v := x.v) hkr (by omega)
            have HK3 : Hid (∀ v' w', w'.ownsRow w.heap.size 37 4 v' (WL.length + 1) (itvs WL ++ [.string x.u, .int .i64 x.s, .int .i64 x.k, .string x.v]) → App (w9.alloc (.cells #[.int .i64 zz, .int .i64 aa, .int .i64 nn] 25)) w' (.slice va WL.length vc) v' → LsI w w' l q p (m + 1) v' D9 F9 (K2 ++ [recB x.u x.s x.k x.v]) (WL ++ [x])) := Lib.hid fun v' w' h1 h2 => by
              have hrl := recB_len hkr x.v (by omega)
              have hvo : ∀ at', vone 2 at' (recB x.u x.s x.k x.v) = [⟨⟨x.u, x.s, x.k, x.v⟩, 2, (at' : Nat), ((recB x.u x.s x.k x.v).length : Nat)⟩] := fun at' => by unfold vone; rw [hvr]
              refine ⟨by rw [flR_snoc]; exact HO9.out, by rw [flR_snoc]; exact hL9, hdn3, HL10.out.chg (Chg.of_app h2) (fun k hk e => HAp9.out k e hk), fun t ht => ?_, ?_, by rw [itvs_snoc, List.length_append]; exact h1, fun y hy hf => ?_, by rw [List.length_append, List.length_singleton]; omega, HB10.out.trans ((Chg.of_app h2).below (fun k hk => (World.ownsRow.lt HRow10.out k hk).1) hz10)⟩
              · rcases List.mem_append.1 ht with ht | ht
                · exact HK2.out t ht
                · obtain rfl : t = recB x.u x.s x.k x.v := by simpa using ht
                  omega
              · rw [vlist_append, vlist_one, hvo, List.map_append, HV2.out]; rfl
              · rcases h2.lies with e | ⟨g, e, hg⟩
                · exact HAp9.out y (by rw [← e]; exact hy) hf
                · rw [e] at hy; cases hy; have := (HL10.out.ge _ hf).2; omega
            obtain ⟨i0, hi, hz0, hz1, hz2⟩ := info_parts infoIt
            have hWl : WL.length ≤ 1000 := by omega
            clear hkr hvr hL9 hdn9 hzn
            go_wp2_with (at_builtin; go_loud (refine wpList_appN rfl (.tmp 88) (.tmp 90) 22 37 i0 (.agg #[.string ⟨#[]⟩, .int .i64 0, .int .i64 0, .string ⟨#[]⟩]) 4 48 Tryd.underlying22 hi hz0 hz1 hz2 rfl (by decide) rfl w.heap.size _ WL.length (itvs WL) rfl HRow10.out #[.string x.u, .int .i64 x.s, .int .i64 x.k, .string x.v] 1 1 (by first | rfl | (simp; done) | (simp; rfl)) rfl (by simp [Value.oneCell']) (by unfold maxLen; omega) (by omega) hz10 ?_); intro v11 w11 ho11 _ ha11; have HX := Lib.hid (HK3.out _ _ ho11 ha11); clear ho11 ha11)
            go_roundw
            case rel => exact ⟨m + 1, D9, F9, K2 ++ [recB x.u x.s x.k x.v], WL ++ [x], by omega, by go_num, HX.out⟩
            case measure => simp [intOf]; omega
          · have hne : (er == 0) = false := by rw [beq_eq_false_iff_ne]; exact her
            subst hL
            have HX : Hid (LsI w (w9.alloc (.cells #[.int .i64 zz, .int .i64 aa, .int .i64 nn] 25)) l q p (m + 1) (.slice va WL.length vc) D9 F9 K2 WL) := Lib.hid ⟨HO9.out, hL9, hdn3, HL10.out, HK2.out, HV2.out, HRow10.out, HAp9.out, by omega, HB10.out⟩
            clear her hL9 hdn9
            go_wp2
            go_roundw
            case rel => exact ⟨m + 1, D9, F9, K2, WL, by omega, by go_num, HX.out⟩
            case measure => simp [intOf]; omega
      · obtain rfl : m = l.length := by omega
        have hz : zread D 2 0 (zpt D 2) = (flR K, 0) := by
          have h1 : zpt D 2 = ((flR K).length : Nat) := HO.out.pt
          have h2 := HO.out.read 0 ((flR K).length : Nat)
          rw [h1]
          refine h2.trans ?_
          have := zrdb_is (flR K) 0 (flR K).length (by omega)
          simpa using this
        have hsc : ScanIs (flR K) K := ⟨fun t ht => by have := HKt.out t ht; omega, [], by rw [List.append_nil]; rfl, rfl⟩
        have HLs := Lib.hid (HL.out.list (HT.out.below hbr) 2 (flR K) K hz hsc (by omega))
        clear hz hsc hlt hm
        go_wp2_with fail; (with_reducible refine (HLs.out).mono ?_); rintro e w5 ⟨u5, rfl, hrow5, hb5⟩
        have hVl : (vlist 2 0 K).length = WL.length := by rw [← HWL.out, List.length_map]
        obtain ⟨ua, uc, rfl, huc, hum, _⟩ := row_shape hrow5
        have hVl2 := hVl
        rw [hVl] at huc ⊢
        have HWh : Hid (w5.ownsRow w.heap.size 69 7 (.slice ua WL.length uc) (vlist 2 0 K).length (vvs (vlist 2 0 K))) := Lib.hid (by have h := row_mono hrow5 hbr.size; rw [hVl] at h ⊢; exact h)
        have HVl := Lib.hid hVl
        have HB5 := Lib.hid (hbr.trans (hb5.mono hbr.size))
        have HL5 := Lib.hid (HL.out.below hb5)
        have HRow5 := Lib.hid (row_past HRow.out hb5 (Nat.le_refl _))
        obtain ⟨D6, L6, er6, hcase6, hL6, hO6, hdn6, hraw6⟩ := HO.out.raw hL4 HL5.out R (by omega) (by omega)
        have HRaw : Hid (Calls Tryd.prog 14 #[.pointer (some ⟨p, 0, none⟩), .int .i64 2, .slice ra R.length rc] w5 fun e w' => e = .returned (.int .i64 er6) ∧ LOut w5 w.heap.size q p F D6 ([] ++ [2]) w') := Lib.hid (hraw6 ra rc (HR.out.below HB5.out))
        have HO6 := Lib.hid hO6
        have HC6 := Lib.hid hcase6
        have HWfar : Hid (∀ k, (Value.slice ua WL.length uc).ownBlock = some k → ¬ F k) := Lib.hid fun k hk hf => by
          have h1 := (HL.out.ge k hf).2
          have h2 := hrow5
          rw [hVl2] at h2
          have h3 := (World.ownsRow.lt h2 k hk).1
          omega
        clear hrow5 hb5 hraw6 hO6 hcase6 hVl hVl2 HLs HL HRow HBr hbr HO
        go_wp2_with fail; (with_reducible refine (HRaw.out).mono ?_); rintro e w6 ⟨rfl, ho6⟩
        have hb56 := ho6.below HL5.out.ge HL5.out.room
        have HB6 := Lib.hid (HB5.out.trans hb56)
        have HWh6 := Lib.hid (row_same HWh.out fun k hk => ho6.2.block k (World.ownsRow.lt HWh.out k hk).2 (HWfar.out k hk))
        have HRow6 := Lib.hid (row_same HRow5.out fun k hk => ho6.2.block k (World.ownsRow.lt HRow5.out k hk).2 (HAp.out k hk))
        obtain ⟨⟨F6, hl6, _⟩, _⟩ := ho6
        have HL6 := Lib.hid hl6
        obtain ⟨M, hM⟩ : ∃ M, ScanIs L6 (K ++ M) := by
          have hK9 : ∀ t ∈ K, t.length < 9223372036854775808 := fun t ht => by have := HKt.out t ht; omega
          rcases HC6.out with ⟨_, rfl⟩ | ⟨_, rfl⟩
          · obtain ⟨M, hM⟩ := scan_ex R.length R (Nat.le_refl _)
            exact ⟨M, scan_cat hK9 hM⟩
          · exact ⟨[], by have := scan_cat hK9 (ScanIs.nil (b := []) rfl); rwa [List.append_nil] at this⟩
        have hz6 : zread D6 2 0 (zpt D6 2) = (L6, 0) := by
          have h1 : zpt D6 2 = (L6.length : Nat) := HO6.out.pt
          have h2 := HO6.out.read 0 (L6.length : Nat)
          rw [h1]
          refine h2.trans ?_
          have := zrdb_is L6 0 L6.length (by omega)
          simpa using this
        have HLs := Lib.hid (hl6.list (HT.out.below HB6.out) 2 L6 (K ++ M) hz6 hM (by omega))
        clear hb56 hl6 hM hz6 HRaw HWh HRow5 HB5 HL5 HWfar
        go_wp2_with fail; (with_reducible refine (HLs.out).mono ?_); rintro e w7 ⟨u7, rfl, hrow7, hb7⟩
        have hvc2 := vlist_append 2 K M 0
        rw [hvc2] at hrow7
        obtain ⟨V2, hV2⟩ : ∃ V2, vlist 2 (0 + (flR K).length) M = V2 := ⟨_, rfl⟩
        rw [hV2] at hrow7
        obtain ⟨ma, mc, rfl, hmc, _⟩ := row_shape hrow7
        obtain ⟨V, hV⟩ : ∃ V, vlist 2 0 K = V := ⟨_, rfl⟩
        rw [hV] at hrow7 HWh6 HVl HWL hmc ⊢
        have hge : ¬ ((V ++ V2).length < WL.length) := by rw [List.length_append, HVl.out]; omega
        have hml : WL.length ≤ (V ++ V2).length := by omega
        obtain ⟨mn, hmn⟩ : ∃ mn, (V ++ V2).length = mn := ⟨_, rfl⟩
        rw [hmn] at hge hml hmc ⊢
        have HMo : Hid (w7.ownsRow w6.heap.size 69 7 (.slice ma mn mc) (V ++ V2).length (vvs (V ++ V2))) := Lib.hid (by have h := hrow7; rw [hmn] at h ⊢; exact h)
        have HMn := Lib.hid hmn
        have HB7 := Lib.hid (HB6.out.trans (hb7.mono HB6.out.size))
        have HWh7 := Lib.hid (row_past HWh6.out hb7 (Nat.le_refl _))
        have HRow7 := Lib.hid (row_past HRow6.out hb7 (Nat.le_refl _))
        have hbad : zread D6 4 0 (zpt D6 4) = ([], 70) := by
          rw [zread_bad (.inr (.inr (by rw [HO6.out.n]; decide))), zfnd_out HO6.out.down (.inr (by rw [HO6.out.n]; decide))]
        have HL4 : Hid (∀ W, Below w7.heap.size w7 W → Calls Tryd.prog 30 #[.pointer (some ⟨p, 0, none⟩), .int .i64 4] W fun e w' => e = .returned (.tuple #[.slice none 0 0, .int .i64 70]) ∧ Below W.heap.size W w') := Lib.hid fun W hW => (HL6.out.below (hb7.trans (hW.mono hb7.size))).list_no 4 70 hbad (by decide)
        clear hrow7 hvc2 hV2 hV hmn hb7 hbad HLs HWh6 HRow6 HB6
        go_wp2
        go_loopw [126] (fun i wr => ∃ m : Nat, m ≤ WL.length ∧ i = .int .i64 m ∧ Below w7.heap.size w7 wr) (fun i _ => WL.length - (intOf i).toNat)
        case atStart => exact ⟨0, Nat.zero_le _, rfl, Below.refl _ _⟩
        case round =>
          obtain ⟨m, hm, rfl, hbr⟩ := hrel
          have HBr := Lib.hid hbr
          by_cases hlt : m < WL.length
          · have hltV : m < V.length := by rw [HVl.out]; exact hlt
            obtain ⟨g1, rfl, i0, i1, i2, i3⟩ := irow_at HRow7.out hbr m hlt
            obtain ⟨g2, rfl, j0, j1, j2, j3, j4, j5, j6⟩ := vrow_at HWh7.out hbr m hltV
            obtain ⟨g3, rfl, k0, k1, k2, k3, k4, k5, k6⟩ := vrow_at HMo.out hbr m (by rw [List.length_append]; omega)
            have hapd : (V ++ V2)[m]'(by rw [List.length_append]; omega) = V[m] := List.getElem_append_left hltV
            rw [hapd] at k0 k1 k2 k3 k4 k5 k6
            have hwx : WL[m] = (V[m]).x := by
              have := List.getElem_of_eq HWL.out (show m < (V.map Vv.x).length by rw [List.length_map]; exact hltV)
              rw [List.getElem_map] at this
              exact this.symm
            rw [hwx] at i0 i1 i2 i3
            clear hapd hwx
            generalize V[m] = y at *
            obtain ⟨⟨yu, ys, yk, yv⟩, yz, ya, yn⟩ := y
            simp only at i0 i1 i2 i3 j0 j1 j2 j3 j4 j5 j6 k0 k1 k2 k3 k4 k5 k6
            have hbx := (Below.refl wr.heap.size wr).alloc (Nat.le_refl _) (.cells #[.string yu, .int .i64 ys, .int .i64 yk, .string yv] 37)
            obtain ⟨y0, y1, y2, y3⟩ := cells4n (w := wr) (a := .string yu) (b := .int .i64 ys) (c := .int .i64 yk) (d := .string yv) (T := 37)
            have nj0 := cell_next j0 _ hbx
            have nj1 := cell_next j1 _ hbx
            have nj2 := cell_next j2 _ hbx
            have nj3 := cell_next j3 _ hbx
            have nj4 := cell_next j4 _ hbx
            have nj5 := cell_next j5 _ hbx
            have nj6 := cell_next j6 _ hbx
            have nk0 := cell_next k0 _ hbx
            have nk1 := cell_next k1 _ hbx
            have nk2 := cell_next k2 _ hbx
            have nk3 := cell_next k3 _ hbx
            have nk4 := cell_next k4 _ hbx
            have nk5 := cell_next k5 _ hbx
            have nk6 := cell_next k6 _ hbx
            have HBx := Lib.hid (hbr.trans (hbx.mono hbr.size))
            have h1 := neKeyS yu ys yk
            have h2 := neVv yu ys yk yv yz ya yn
            have hmn2 : m < mn := by omega
            go_upto_region 27 with (fail)
            clear i0 i1 i2 i3 j0 j1 j2 j3 j4 j5 j6 k0 k1 k2 k3 k4 k5 k6 hbx hbr
            generalize wr.alloc (.cells #[.string yu, .int .i64 ys, .int .i64 yk, .string yv] 37) = w9 at *
            generalize wr.heap.size = tq at *
            have HB9 := Lib.hid HBx.out.drew
            go_region
            go_wp2
            go_roundw
            case rel => exact ⟨m + 1, by omega, by go_num, HB9.out⟩
            case measure => simp [intOf]; omega
          · have HLf := Lib.hid (HL4.out _ hbr)
            have HB8 := Lib.hid (HB7.out.trans (hbr.mono HB7.out.size))
            clear hbr
            go_wp2_with fail; (with_reducible refine (HLf.out).mono ?_); rintro e w10 ⟨rfl, hb10⟩
            have HB10 := Lib.hid (HB8.out.trans (hb10.mono HB8.out.size))
            have HA := Lib.hid (awake14 (HT.out.below HB10.out))
            clear hb10
            go_wp2_with fail; (with_reducible refine (HA.out).mono ?_); rintro e w11 ⟨rfl, hb11⟩
            go_wp2
            go_ret
            exact ⟨by first | rfl | simp, HB10.out.trans (hb11.mono HB10.out.size)⟩
end Go.Proofs.YtmhklmecpbdljaaDoor
