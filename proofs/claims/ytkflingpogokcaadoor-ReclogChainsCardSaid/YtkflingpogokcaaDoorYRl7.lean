/- Chapter 09: the document's Scan. -/
import Derived.Test.YtkflingpogokcaaDoorYRl6
namespace Go.Proofs.YtkflingpogokcaaDoor
open Go.RowKit Go.Shelf
set_option linter.unusedVariables false
set_option linter.unusedSimpArgs false

theorem one_same {rest t r : List UInt8} (e : rdText (rest.drop 4) = some (t, r)) (h : rest.take (rest.length - r.length) = frB t) : oneP rest = some (t, rest.length - r.length) := by
  obtain ⟨m, q, h1, h2, h3, h5⟩ := rdText_some e
  obtain ⟨h6, h7, _⟩ := rdNum_is 9 true _ m q h1
  have ht : t.length < 9223372036854775808 := by rw [h3, List.length_take]; omega
  have hr : rest = frB t ++ rest.drop (rest.length - r.length) := by rw [← h, List.take_append_drop]
  have hl := congrArg List.length h
  rw [List.length_take] at hl
  have e1 := one_of ht (rest.drop (rest.length - r.length))
  rw [← hr] at e1
  rw [e1]
  congr 2
  omega
theorem one_other {rest t r : List UInt8} (e : rdText (rest.drop 4) = some (t, r)) (h : rest.take (rest.length - r.length) ≠ frB t) : oneP rest = none := by
  cases e1 : oneP rest with
  | none => rfl
  | some x =>
    obtain ⟨u, k⟩ := x
    obtain ⟨_, hu, r', rfl⟩ := one_is e1
    obtain ⟨_, h4⟩ := frB_apart u r'
    rw [h4, show rdText (txtB u ++ r') = some (u, r') from rdText_num u r' hu, Option.some.injEq, Prod.mk.injEq] at e
    obtain ⟨rfl, rfl⟩ := e
    exact absurd (by rw [List.length_append, Nat.add_sub_cancel, List.take_left]) h
theorem rdText_of {l q : List UInt8} {n : Nat} (h : rdNum 9 true l = some (n, q)) : rdText l = if n ≤ q.length then some (q.take n, q.drop n) else none := by unfold rdText; rw [h]
theorem rdText_no {l : List UInt8} (h : rdNum 9 true l = none) : rdText l = none := by unfold rdText; rw [h]
def RefOut (w : World) (b : List UInt8) (e : Ending) (w' : World) : Prop :=
  ∃ (xs : List RX) (u : Value), ScanIs b (xs.map RX.l) ∧ e = .returned (.tuple #[u, .int .i64 ((flR (xs.map RX.l)).length : Nat)]) ∧ RowR w' w.heap.size u xs ∧ Below w.heap.size w w'
set_option maxRecDepth 100000 in
set_option maxHeartbeats 4000000 in
theorem refscan {w : World} {ao : Option Addr} {c : Nat} {b : List UInt8} (h : RB w (.slice ao b.length c) b) (hl : b.length ≤ 1000000) :
    Calls Tryd.prog 15 #[.slice ao b.length c] w (RefOut w b) := by
  obtain ⟨i0, hi, hz0, hz1, hz2⟩ := info_parts infoSl9
  have H := Lib.hid h
  have hcap := h.capl
  clear h
  go_enter Tryd.func15, Tryd.ntmps15
  go_wp2
  go_loopw [4, 5] (fun u i wr => ∃ (xs : List RX) (rest : List UInt8), i = .int .i64 ((flR (xs.map RX.l)).length : Nat) ∧ b = flR (xs.map RX.l) ++ rest ∧ (∀ t ∈ xs.map RX.l, t.length < 9223372036854775808) ∧ RowR wr w.heap.size u xs ∧ Below w.heap.size w wr) (fun _ i _ => b.length - (intOf i).toNat)
  case atStart => exact ⟨[], b, rfl, rfl, fun t ht => (nomatch ht), ⟨World.ownsRow_nil _ _ _ _, fun x hx => (nomatch hx)⟩, Below.refl _ _⟩
  case round =>
    obtain ⟨xs, rest, rfl, hb, hall, hrow, hbr⟩ := hrel
    have hbl := congrArg List.length hb
    rw [List.length_append] at hbl
    have HAll := Lib.hid hall
    have HRow := Lib.hid hrow
    have HB := Lib.hid hbr
    have Hb := Lib.hid hb
    have h5x := flR_len (xs.map RX.l)
    rw [List.length_map] at h5x
    have hdG : b.drop (flR (xs.map RX.l)).length = rest := by rw [hb, List.drop_left]
    have hgb : (flR (xs.map RX.l)).length ≤ b.length := by omega
    have H5 := Lib.hid h5x
    have HDG := Lib.hid hdG
    obtain ⟨ua, uc, rfl, huc⟩ := row_shape hrow.1
    have stop : Hid (∀ wz, oneP rest = none → Below w.heap.size w wz → RowR wz w.heap.size (.slice ua xs.length uc) xs → RefOut w b (.returned (.tuple #[.slice ua xs.length uc, .int .i64 ((flR (xs.map RX.l)).length : Nat)])) wz) := Lib.hid fun wz h0 hz h1 => ⟨xs, _, ⟨HAll.out, rest, Hb.out, h0⟩, rfl, h1, hz⟩
    have HBL := Lib.hid hbl
    clear hall hrow hbr hb hbl h5x hdG huc
    obtain ⟨G, hG⟩ : ∃ G, (flR (xs.map RX.l)).length = G := ⟨_, rfl⟩
    rw [hG] at HBL HDG stop hgb ⊢
    have HG := Lib.hid hG
    clear hG
    by_cases h4 : G + 4 ≤ b.length
    · have h4r : ¬ rest.length < 4 := by have := HBL.out; omega
      have hRd := refread (H.out.below HB.out) (by omega) (G + 4) h4
      have hd4 : b.drop (G + 4) = rest.drop 4 := by rw [← HDG.out, List.drop_drop]
      rw [hd4] at hRd
      cases eN : rdNum 9 true (rest.drop 4) with
      | none =>
        rw [eN] at hRd
        have hfin := Lib.hid (stop.out _ (one_noText h4r (rdText_no eN)) HB.out HRow.out)
        have HR : Hid (Calls Tryd.prog 42 #[.slice ao b.length c, .int .i64 ((G : Int) + 4)] wr fun e w' => e = .returned (.tuple #[.int .i64 0, .int .i64 (-1)]) ∧ wr = w') := Lib.hid (hRd.mono fun e w' ⟨h1, h2⟩ => ⟨h2, h1⟩)
        clear hRd eN hd4
        go_wp2_with fail; (with_reducible refine (HR.out).mono ?_); rintro e w2 ⟨rfl, rfl⟩
        go_wp2
        go_ret2
        exact hfin.out
      | some y =>
        obtain ⟨n, q⟩ := y
        rw [eN] at hRd
        obtain ⟨hnum, hn63, _⟩ := rdNum_is 9 true _ n q eN
        have hrt := rdText_of eN
        have hnp := num_pos n
        have hrl : rest.length = 4 + (num n).length + q.length := by
          have := congrArg List.length hnum
          rw [List.length_drop, List.length_append] at this
          omega
        have hn64 : n < 9223372036854775808 := hn63
        obtain ⟨bg, hbg⟩ : ∃ bg, b.length - q.length = bg := ⟨_, rfl⟩
        have hq : b.drop bg = q := by
          have e1 : b.drop (G + 4 + (num n).length) = q := by rw [← List.drop_drop, hd4, hnum, List.drop_left]
          have : bg = G + 4 + (num n).length := by have := HBL.out; omega
          rw [this, e1]
        have hbi : ((b.length : Int) - (q.length : Int)) = ((bg : Nat) : Int) := by have := HBL.out; omega
        have hbG : G + 5 ≤ bg := by have := HBL.out; omega
        have hbb : bg ≤ b.length := by omega
        have HR : Hid (Calls Tryd.prog 42 #[.slice ao b.length c, .int .i64 ((G : Int) + 4)] wr fun e w' => e = .returned (.tuple #[.int .i64 n, .int .i64 bg]) ∧ wr = w') := Lib.hid (hRd.mono fun e w' ⟨h1, h2⟩ => ⟨by rw [h2, hbi], h1⟩)
        have HBG := Lib.hid hbg
        have HRL := Lib.hid hrl
        have HQ := Lib.hid hq
        clear hRd eN hd4 hbi hnum hbg hn63 hnp hrl hq
        by_cases hnq : n ≤ q.length
        · rw [if_pos hnq] at hrt
          obtain ⟨k, off, rfl⟩ := H.out.addr (by omega)
          have hlt1 : (q.take n).length = n := by rw [List.length_take]; omega
          have hN : rest.length - (q.drop n).length = bg + n - G := by rw [List.length_drop]; have := HBG.out; have := HBL.out; have := HRL.out; omega
          have hsub : RB wr (.slice (some ⟨k, off + G, none⟩) (bg + n - G) (c - G)) (rest.take (bg + n - G)) := by
            have h1 := rb_drop (n := G) (c' := c - G) (H.out.below HB.out) (by omega) (by omega)
            rw [HDG.out] at h1
            have hle : rest.length = b.length - G := by have := HBL.out; omega
            rw [← hle] at h1
            exact rb_takeAny h1 (by have := HBG.out; omega)
          have hbn : bg + n ≤ b.length := by have := HBG.out; omega
          have hcpy : Hid (∀ v, RB wr v (q.take n) → Calls Tryd.prog 18 #[v] wr (NewB wr (q.take n))) := Lib.hid fun v hv => refcopy hv (by omega)
          have Hst := Lib.hid (one_same hrt)
          have Hso := Lib.hid (one_other hrt)
          rw [hN] at Hst Hso
          have HSub := Lib.hid hsub
          have HQt : Hid (b.drop bg = q) := HQ
          have hqb : q.length = b.length - bg := by rw [← HQ.out, List.length_drop]
          have hng : ¬ (b.length - bg < n) := by omega
          have hng2 : decide ((b.length : Int) - (bg : Int) < (n : Int)) = false := decide_eq_false (by omega)
          have HQb := Lib.hid hqb
          have HT1 := Lib.hid hlt1
          have hGn : G ≤ bg + n := by omega
          have hsl : ∃ kb ob cb, (RB wr (.slice (some ⟨kb, ob, none⟩) n cb) (q.take n)) ∧ ((bg < c ∧ kb = k ∧ ob = off + bg ∧ cb = c - bg) ∨ (bg = c ∧ kb = k ∧ ob = off ∧ n = 0 ∧ cb = 0)) := by
            by_cases hbc : bg < c
            · have h1 := rb_drop (n := bg) (c' := c - bg) (H.out.below HB.out) hbb (by omega)
              rw [HQ.out, ← hqb] at h1
              exact ⟨k, off + bg, c - bg, rb_takeAny h1 hnq, .inl ⟨hbc, rfl, rfl, rfl⟩⟩
            · have hn0 : n = 0 := by omega
              subst hn0
              exact ⟨k, off, 0, by rw [List.take_zero]; exact RB.nil _ _ _, .inr ⟨by omega, rfl, rfl, rfl, rfl⟩⟩
          obtain ⟨kb, ob, cb, hsl1, hsl2⟩ := hsl
          have HC := Lib.hid (hcpy.out _ hsl1)
          clear hrt hlt1 hN hsub hcpy hqb hsl1 hnq
          generalize hT : q.take n = t at *
          generalize hRT : rest.take (bg + n - G) = rt at *
          rcases hsl2 with ⟨hbc, rfl, rfl, rfl⟩ | ⟨rfl, rfl, rfl, rfl, rfl⟩
          · have hqq := trivial
            go_wp2_with fail; (with_reducible refine (HR.out).mono ?_); rintro e w2 ⟨rfl, rfl⟩
            go_wp2_with fail; (with_reducible refine (HC.out).mono ?_); rintro e w3 ⟨v3, rfl, ho3, hb3⟩
            obtain ⟨a3, n3, c3, rfl, hm3⟩ := ho3.shape
            obtain rfl := ho3.len
            have HO3 := Lib.hid (ho3.mono HB.out.size)
            have HB3 := Lib.hid (HB.out.trans (hb3.mono HB.out.size))
            have HRow3 : Hid (RowR w3 w.heap.size (.slice ua xs.length uc) xs) := Lib.hid ⟨row_past HRow.out.1 hb3 (Nat.le_refl _), fun x hx => ⟨(HRow.out.2 x hx).1.past hb3 (Nat.le_refl _), (HRow.out.2 x hx).2⟩⟩
            have HSub3 := Lib.hid (HSub.out.below hb3)
            have HF3 := Lib.hid (refframe ho3.reads (by have := HT1.out; omega))
            clear ho3 hb3
            go_wp2_with fail; (with_reducible refine (HF3.out).mono ?_); rintro e w4 ⟨v4, rfl, ho4, hb4⟩
            have HO4 := Lib.hid (HO3.out.past hb4 (Nat.le_refl _))
            have HB4 := Lib.hid (HB3.out.trans (hb4.mono HB3.out.size))
            have HRow4 : Hid (RowR w4 w.heap.size (.slice ua xs.length uc) xs) := Lib.hid ⟨row_past HRow3.out.1 hb4 (Nat.le_refl _), fun x hx => ⟨(HRow3.out.2 x hx).1.past hb4 (Nat.le_refl _), (HRow3.out.2 x hx).2⟩⟩
            have HR4 := Lib.hid ho4.reads
            have HSub4 := Lib.hid (HSub3.out.below hb4)
            clear ho4 hb4
            by_cases hz : frB t = rt
            · have hsm := same_any HR4.out HSub4.out
              rw [beq_iff_eq.2 hz] at hsm
              have HSm := Lib.hid hsm
              have h1 := Hst.out (by rw [hz])
              obtain ⟨r', hr1, hr2, hr3, _, _⟩ := scan_step Hb.out h1
              have hKl : (flR ((xs ++ [(⟨a3, c3, t, 0⟩ : RX)]).map RX.l)).length = bg + n := by
                rw [List.map_append, List.map_singleton, hr2, HG.out]; omega
              have HKl := Lib.hid hKl
              have Hr1 : Hid (b = flR ((xs ++ [(⟨a3, c3, t, 0⟩ : RX)]).map RX.l) ++ r') := Lib.hid (by rw [List.map_append, List.map_singleton]; exact hr1)
              have Hall : Hid (∀ u ∈ (xs ++ [(⟨a3, c3, t, 0⟩ : RX)]).map RX.l, u.length < 9223372036854775808) := Lib.hid fun u hu => by
                rw [List.map_append, List.mem_append] at hu
                rcases hu with hu | hu
                · exact HAll.out u hu
                · obtain rfl : u = t := by simpa using hu
                  exact hr3
              have hxl : xs.length ≤ 1000000 := by have := H5.out; have := HG.out; omega
              have hz4 := HB4.out.size
              clear hsm hz h1 hr1 hr2 hr3 hKl
              go_wp2_with fail; (with_reducible refine (HSm.out).mono ?_); rintro e w5 ⟨rfl, rfl⟩
              go_wp2_with (at_builtin; go_loud (refine wpList_appN rfl (.tmp 54) (.tmp 56) 25 22 i0 (.slice none 0 0) 1 24 Tryd.underlying25 hi hz0 hz1 hz2 rfl (by decide) rfl w.heap.size _ xs.length (rxs xs) rfl HRow4.out.1 #[.slice a3 t.length c3] 1 1 (by first | rfl | (simp; done) | (simp; rfl)) rfl (by simp [Value.oneCell']) (by unfold maxLen; omega) (by omega) hz4 ?_); intro v6 w6 ho6 _ ha6; have HRow6 : Hid (RowR w6 w.heap.size v6 (xs ++ [⟨a3, c3, t, 0⟩])) := Lib.hid ⟨by rw [rxs_snoc, List.length_append]; exact ho6, fun x hx => by
                rw [List.mem_append] at hx
                rcases hx with hx | hx
                · exact ⟨(HRow4.out.2 x hx).1.kept ha6.grown (ob_row9 (HRow4.out.2 x hx).1 HRow4.out.1), (HRow4.out.2 x hx).2⟩
                · obtain rfl : x = ⟨a3, c3, t, 0⟩ := by simpa using hx
                  exact ⟨HO4.out.kept ha6.grown (ob_row9 HO4.out HRow4.out.1), hm3⟩⟩; have HB6 := Lib.hid (HB4.out.grown ha6.grown hz4 (fun q hq => (World.ownsRow.lt HRow4.out.1 q hq).1)); clear ho6 ha6)
              go_roundw
              case rel => exact ⟨xs ++ [⟨a3, c3, t, 0⟩], r', (by first | (rw [HKl.out]; done) | (rw [HKl.out]; first | rfl | go_num)), Hr1.out, Hall.out, HRow6.out, HB6.out⟩
              case measure => simp [intOf]; omega
            · have hsm := same_any HR4.out HSub4.out
              rw [beq_eq_false_iff_ne.2 hz] at hsm
              have HSm := Lib.hid hsm
              have hfin := Lib.hid (stop.out _ (Hso.out (fun e => hz e.symm)) HB4.out HRow4.out)
              clear hsm hz
              go_wp2_with fail; (with_reducible refine (HSm.out).mono ?_); rintro e w5 ⟨rfl, rfl⟩
              go_wp2
              go_ret2
              exact hfin.out
          · replace HSub : Hid (RB wr (.slice (some ⟨kb, ob + G, none⟩) (bg - G) (bg - G)) rt) := Lib.hid HSub.out
            go_wp2_with fail; (with_reducible refine (HR.out).mono ?_); rintro e w2 ⟨rfl, rfl⟩
            go_wp2_with fail; (with_reducible refine (HC.out).mono ?_); rintro e w3 ⟨v3, rfl, ho3, hb3⟩
            obtain ⟨a3, n3, c3, rfl, hm3⟩ := ho3.shape
            obtain rfl := ho3.len
            have HO3 := Lib.hid (ho3.mono HB.out.size)
            have HB3 := Lib.hid (HB.out.trans (hb3.mono HB.out.size))
            have HRow3 : Hid (RowR w3 w.heap.size (.slice ua xs.length uc) xs) := Lib.hid ⟨row_past HRow.out.1 hb3 (Nat.le_refl _), fun x hx => ⟨(HRow.out.2 x hx).1.past hb3 (Nat.le_refl _), (HRow.out.2 x hx).2⟩⟩
            have HSub3 := Lib.hid (HSub.out.below hb3)
            have HF3 := Lib.hid (refframe ho3.reads (by have := HT1.out; omega))
            clear ho3 hb3
            go_wp2_with fail; (with_reducible refine (HF3.out).mono ?_); rintro e w4 ⟨v4, rfl, ho4, hb4⟩
            have HO4 := Lib.hid (HO3.out.past hb4 (Nat.le_refl _))
            have HB4 := Lib.hid (HB3.out.trans (hb4.mono HB3.out.size))
            have HRow4 : Hid (RowR w4 w.heap.size (.slice ua xs.length uc) xs) := Lib.hid ⟨row_past HRow3.out.1 hb4 (Nat.le_refl _), fun x hx => ⟨(HRow3.out.2 x hx).1.past hb4 (Nat.le_refl _), (HRow3.out.2 x hx).2⟩⟩
            have HR4 := Lib.hid ho4.reads
            have HSub4 := Lib.hid (HSub3.out.below hb4)
            clear ho4 hb4
            by_cases hz : frB t = rt
            · have hsm := same_any HR4.out HSub4.out
              rw [beq_iff_eq.2 hz] at hsm
              have HSm := Lib.hid hsm
              have h1 := Hst.out (by rw [hz])
              obtain ⟨r', hr1, hr2, hr3, _, _⟩ := scan_step Hb.out h1
              have hKl : (flR ((xs ++ [(⟨a3, c3, t, 0⟩ : RX)]).map RX.l)).length = bg := by
                rw [List.map_append, List.map_singleton, hr2, HG.out]; omega
              have HKl := Lib.hid hKl
              have Hr1 : Hid (b = flR ((xs ++ [(⟨a3, c3, t, 0⟩ : RX)]).map RX.l) ++ r') := Lib.hid (by rw [List.map_append, List.map_singleton]; exact hr1)
              have Hall : Hid (∀ u ∈ (xs ++ [(⟨a3, c3, t, 0⟩ : RX)]).map RX.l, u.length < 9223372036854775808) := Lib.hid fun u hu => by
                rw [List.map_append, List.mem_append] at hu
                rcases hu with hu | hu
                · exact HAll.out u hu
                · obtain rfl : u = t := by simpa using hu
                  exact hr3
              have hxl : xs.length ≤ 1000000 := by have := H5.out; have := HG.out; omega
              have hz4 := HB4.out.size
              clear hsm hz h1 hr1 hr2 hr3 hKl
              go_wp2_with fail; (with_reducible refine (HSm.out).mono ?_); rintro e w5 ⟨rfl, rfl⟩
              go_wp2_with (at_builtin; go_loud (refine wpList_appN rfl (.tmp 54) (.tmp 56) 25 22 i0 (.slice none 0 0) 1 24 Tryd.underlying25 hi hz0 hz1 hz2 rfl (by decide) rfl w.heap.size _ xs.length (rxs xs) rfl HRow4.out.1 #[.slice a3 t.length c3] 1 1 (by first | rfl | (simp; done) | (simp; rfl)) rfl (by simp [Value.oneCell']) (by unfold maxLen; omega) (by omega) hz4 ?_); intro v6 w6 ho6 _ ha6; have HRow6 : Hid (RowR w6 w.heap.size v6 (xs ++ [⟨a3, c3, t, 0⟩])) := Lib.hid ⟨by rw [rxs_snoc, List.length_append]; exact ho6, fun x hx => by
                rw [List.mem_append] at hx
                rcases hx with hx | hx
                · exact ⟨(HRow4.out.2 x hx).1.kept ha6.grown (ob_row9 (HRow4.out.2 x hx).1 HRow4.out.1), (HRow4.out.2 x hx).2⟩
                · obtain rfl : x = ⟨a3, c3, t, 0⟩ := by simpa using hx
                  exact ⟨HO4.out.kept ha6.grown (ob_row9 HO4.out HRow4.out.1), hm3⟩⟩; have HB6 := Lib.hid (HB4.out.grown ha6.grown hz4 (fun q hq => (World.ownsRow.lt HRow4.out.1 q hq).1)); clear ho6 ha6)
              go_roundw
              case rel => exact ⟨xs ++ [⟨a3, c3, t, 0⟩], r', (by first | (rw [HKl.out]; done) | (rw [HKl.out]; first | rfl | go_num)), Hr1.out, Hall.out, HRow6.out, HB6.out⟩
              case measure => simp [intOf]; omega
            · have hsm := same_any HR4.out HSub4.out
              rw [beq_eq_false_iff_ne.2 hz] at hsm
              have HSm := Lib.hid hsm
              have hfin := Lib.hid (stop.out _ (Hso.out (fun e => hz e.symm)) HB4.out HRow4.out)
              clear hsm hz
              go_wp2_with fail; (with_reducible refine (HSm.out).mono ?_); rintro e w5 ⟨rfl, rfl⟩
              go_wp2
              go_ret2
              exact hfin.out
        · rw [if_neg hnq] at hrt
          have hfin := Lib.hid (stop.out _ (one_noText h4r hrt) HB.out HRow.out)
          have hgt : b.length - bg < n := by have := HBG.out; omega
          have hgt2 : decide ((b.length : Int) - (bg : Int) < (n : Int)) = true := decide_eq_true (by omega)
          clear hrt hnq
          go_wp2_with fail; (with_reducible refine (HR.out).mono ?_); rintro e w2 ⟨rfl, rfl⟩
          go_wp2
          go_ret2
          exact hfin.out
    · have h1 : oneP rest = none := one_short (by have := HBL.out; omega)
      have hfin := Lib.hid (stop.out _ h1 HB.out HRow.out)
      clear h1
      go_wp2
      go_ret2
      exact hfin.out
end Go.Proofs.YtkflingpogokcaaDoor
