/- Chapter 14: a pointer is parsed; VlogParses; VlogPointers. -/
import Derived.Test.YtmhklmecpbdljaaDoorYVp1
namespace Go.Proofs.YtmhklmecpbdljaaDoor
open Go.RowKit
set_option linter.unusedVariables false
set_option linter.unusedSimpArgs false

/-- what Parse tells -/
def VParse (l : List UInt8) (zz aa nn er : Int) : Prop :=
  (er = 0 ∧ ∃ z a n : Nat, zz = z ∧ aa = a ∧ nn = n ∧ pchk z a n = true ∧ l = ptrB z a n) ∨
  (er = 140 ∧ zz = 0 ∧ aa = 0 ∧ nn = 0 ∧ ∀ z a n : Nat, pchk z a n = true → l ≠ ptrB z a n)
theorem rd_set {w : World} {p : Nat} {go : Option Nat} {l : List UInt8} {bad : Bool} (h : RD w p go l bad) {t : Nat} (j : Nat) (v : Value) (hp : p ≠ t) (hg : ∀ k, go = some k → k ≠ t) : RD (w.setCell ⟨t, j, none⟩ v) p go l bad := h.chg (Chg.set w t j v) hp hg
set_option maxRecDepth 100000 in
set_option maxHeartbeats 8000000 in
theorem vparse (str : ByteArray) (w : World) (hs : str.size ≤ 1000000) : Calls Tryd.prog 25 #[.string str] w fun e w' => ∃ zz aa nn er : Int, e = .returned (.tuple #[.agg #[.int .i64 zz, .int .i64 aa, .int .i64 nn], .int .i64 er]) ∧ VParse str.data.toList zz aa nn er ∧ Below w.heap.size w w' := by
  have hconv := fun (w : World) => run_bytes_of_string (P := Tryd.prog) w 9 23 5 str Tryd.underlying9 Tryd.underlying23 Tryd.underlying5
  have HN : Hid (∀ (W : World) g cap fr, W.heap[g]? = some (.cells (bytesRow str cap) 5 fr) → str.size ≤ cap → Calls Tryd.prog 46 #[.slice (some ⟨g, 0, none⟩) str.size cap] W (NewRd W str.data.toList)) := Lib.hid fun W g cap fr hg hc => newreader_any (vrow_bytes hc hg) (by rw [vdataLen]; omega)
  have hz0 := heap_alloc_new w (.cells #[.int .i64 0, .int .i64 0, .int .i64 0] 25)
  have HZ0 := Lib.hid hz0
  have HB0 : Hid (Below w.heap.size w (w.alloc (.cells #[.int .i64 0, .int .i64 0, .int .i64 0] 25))) := Lib.hid ((Below.refl _ w).alloc (Nat.le_refl _) _)
  have hsz0 : (w.alloc (.cells #[.int .i64 0, .int .i64 0, .int .i64 0] 25)).heap.size = w.heap.size + 1 := by simp
  clear hz0
  generalize hl : str.data.toList = l at *
  clear hl
  go_enter Tryd.func25, Tryd.ntmps25
  go_upto_region 1 with (fail)
  generalize w.alloc (.cells #[.int .i64 0, .int .i64 0, .int .i64 0] 25) = wA at *
  go_wp2_with fail
  with_reducible refine (HN.out _ _ _ (_, _) (vnew_drew ?hg) (grownCap_ge _ _ _ _)).mono ?_
  case hg => omega
  rintro e w1 ⟨p, go, rfl, hp, hgo, hrd, hb1⟩
  have hbA : Below wA.heap.size wA w1 := (((Below.refl wA.heap.size wA).alloc (Nat.le_refl _) _).drew.trans (hb1.mono (by simp)))
  have hp1 : w.heap.size + 1 ≤ p := by have h := hp; simp at h; omega
  have HB1 := Lib.hid (HB0.out.trans (hbA.mono (by omega)))
  have hq1 := (hbA.block w.heap.size (by omega)).trans HZ0.out
  have hgp : ∀ k, go = some k → k < w1.heap.size ∧ k ≠ p := by
    obtain ⟨_, _, _, _, _, h⟩ := hrd
    exact h
  have hp1z : p < w1.heap.size := hrd.lt
  have hW1 : w.heap.size + 1 ≤ w1.heap.size := by have := hbA.size; omega
  -- the pointer's own block
  have hq2 := heap_alloc_new w1 (.cells #[.int .i64 0, .int .i64 0, .int .i64 0] 25)
  have hba := (Below.refl w1.heap.size w1).alloc (Nat.le_refl _) (.cells #[.int .i64 0, .int .i64 0, .int .i64 0] 25)
  have HRD2 := Lib.hid (hrd.below hba)
  have HB2 := Lib.hid (HB1.out.trans (hba.mono HB1.out.size))
  have hqW := (hba.block w.heap.size (by omega)).trans hq1
  have hw2z : (w1.alloc (.cells #[.int .i64 0, .int .i64 0, .int .i64 0] 25)).heap.size = w1.heap.size + 1 := by simp
  clear hb1 hbA hrd hba hq1 hconv HN HB0 HZ0 HB1 hgo hp
  go_upto_region 3 with (fail)
  generalize w1.alloc (.cells #[.int .i64 0, .int .i64 0, .int .i64 0] 25) = w2 at *
  have HG := Lib.hid (fun k hk => (hgp k hk).1)
  clear hgp
  obtain ⟨tq, htq⟩ : ∃ tq, w1.heap.size = tq := ⟨_, rfl⟩
  rw [htq] at hq2 HG hp1z hW1 hw2z ⊢
  clear htq
  go_wp2_with fail; (with_reducible refine (number_any HRD2.out).mono ?_); rintro e w3 ⟨n1, l1, b1, rfl, hrd3, hg3, hn1⟩
  have hq3 := (hg3.block tq (by omega) (by simp; omega)).trans hq2
  have hW3 := (hg3.block w.heap.size (by omega) (by simp; omega)).trans hqW
  have HB3 := Lib.hid (grew HB2.out hg3 (by omega) HB2.out.size)
  have HN1 := Lib.hid hn1
  have hz3 : tq < w3.heap.size := blk_lt hq3
  have HRD3 := Lib.hid (rd_set hrd3 0 (.int .i64 n1) (t := tq) (by omega) (fun k hk => by have := HG.out k hk; omega))
  have hs3 := heap_set_listz (l := [_, _, _]) hq3 0 (.int .i64 n1)
  have hWs3 := blk_chg hW3 (Chg.set w3 tq 0 (.int .i64 n1)) (show ¬ w.heap.size = tq by omega)
  have HBs3 := Lib.hid (HB3.out.trans ((Chg.set w3 tq 0 (.int .i64 n1)).below (B := w.heap.size) (fun k e => by omega) HB3.out.size))
  obtain ⟨x0, x1, x2, xf⟩ := cell3v hq3
  have f0 := xf 0
  clear hrd3 hg3 hn1 hq2 hqW HRD2 HB2 hq3 hW3 HB3 xf hw2z
  go_upto_region 4 with (fail)
  generalize w3.setCell ⟨tq, 0, none⟩ (.int .i64 n1) = w4 at *
  clear x0 x1 x2 f0
  go_wp2_with fail; (with_reducible refine (number_any HRD3.out).mono ?_); rintro e w5 ⟨n2, l2, b2, rfl, hrd5, hg5, hn2⟩
  have hz4 : tq < w4.heap.size := blk_lt hs3
  have hq5 := (hg5.block tq hz4 (by simp; omega)).trans hs3
  have hW5 := (hg5.block w.heap.size (by omega) (by simp; omega)).trans hWs3
  have HB5 := Lib.hid (grew HBs3.out hg5 (by omega) HBs3.out.size)
  have HN2 := Lib.hid hn2
  have HRD5 := Lib.hid (rd_set hrd5 1 (.int .i64 n2) (t := tq) (by omega) (fun k hk => by have := HG.out k hk; omega))
  have hs5 := heap_set_listz (l := [_, _, _]) hq5 1 (.int .i64 n2)
  have hWs5 := blk_chg hW5 (Chg.set w5 tq 1 (.int .i64 n2)) (show ¬ w.heap.size = tq by omega)
  have HBs5 := Lib.hid (HB5.out.trans ((Chg.set w5 tq 1 (.int .i64 n2)).below (B := w.heap.size) (fun k e => by omega) HB5.out.size))
  obtain ⟨x0, x1, x2, xf⟩ := cell3v hq5
  have f1 := xf 1
  clear hrd5 hg5 hn2 hs3 hWs3 HRD3 HBs3 hq5 hW5 HB5 xf hz3
  go_upto_region 5 with (fail)
  generalize w5.setCell ⟨tq, 1, none⟩ (.int .i64 n2) = w6 at *
  clear x0 x1 x2 f1
  go_wp2_with fail; (with_reducible refine (number_any HRD5.out).mono ?_); rintro e w7 ⟨n3, l3, b3, rfl, hrd7, hg7, hn3⟩
  have hz6 : tq < w6.heap.size := blk_lt hs5
  have hq7 := (hg7.block tq hz6 (by simp; omega)).trans hs5
  have hW7 := (hg7.block w.heap.size (by omega) (by simp; omega)).trans hWs5
  have HB7 := Lib.hid (grew HBs5.out hg7 (by omega) HBs5.out.size)
  have HN3 := Lib.hid hn3
  have HRD7 := Lib.hid (rd_set hrd7 2 (.int .i64 n3) (t := tq) (by omega) (fun k hk => by have := HG.out k hk; omega))
  have hs7 := heap_set_listz (l := [_, _, _]) hq7 2 (.int .i64 n3)
  have hWs7 := blk_chg hW7 (Chg.set w7 tq 2 (.int .i64 n3)) (show ¬ w.heap.size = tq by omega)
  have HBs7 := Lib.hid (HB7.out.trans ((Chg.set w7 tq 2 (.int .i64 n3)).below (B := w.heap.size) (fun k e => by omega) HB7.out.size))
  obtain ⟨x0, x1, x2, xf⟩ := cell3v hq7
  have f2 := xf 2
  clear hrd7 hg7 hn3 hs5 hWs5 HRD5 HBs5 hq7 hW7 HB7 xf hz4
  go_upto_region 6 with (fail)
  generalize w7.setCell ⟨tq, 2, none⟩ (.int .i64 n3) = w8 at *
  clear x0 x1 x2 f2
  have hs8 : w8.heap[tq]? = some (.cells #[.int .i64 n1, .int .i64 n2, .int .i64 n3] 25 (0, 0)) := hs7
  obtain ⟨y0, y1, y2, _⟩ := cell3v hs8
  have HS8 := Lib.hid hs8
  have HWs := Lib.hid hWs7
  clear hs7 hs8 hWs7
  have hfin : ∀ (w9 : World), Below w8.heap.size w8 w9 → w9.heap[w.heap.size]? = some (.cells #[.int .i64 0, .int .i64 0, .int .i64 0] 25 (0, 0)) ∧ ∀ x y z : Value, (((w9.setCell ⟨w.heap.size, 0, none⟩ x).setCell ⟨w.heap.size, 1, none⟩ y).setCell ⟨w.heap.size, 2, none⟩ z).heap[w.heap.size]? = some (.cells #[x, y, z] 25 (0, 0)) ∧ Below w.heap.size w (((w9.setCell ⟨w.heap.size, 0, none⟩ x).setCell ⟨w.heap.size, 1, none⟩ y).setCell ⟨w.heap.size, 2, none⟩ z) := fun w9 hb => by
    have h1 := (hb.block w.heap.size (blk_lt HWs.out)).trans HWs.out
    have hB := HBs7.out.trans (hb.mono HBs7.out.size)
    exact ⟨h1, fun x y z => ⟨vset3 h1 _ _ _, hB.trans ((vset3_chg w9 _ _ _ _).below (fun k e => by omega) hB.size)⟩⟩
  have HFin := Lib.hid hfin
  clear hfin
  by_cases hdn : b3 = false ∧ l3 = []
  · have HDn : Hid (Calls Tryd.prog 48 #[.pointer (some ⟨p, 0, none⟩)] w8 fun e w' => e = .returned (.int .i64 0) ∧ w8 = w') := Lib.hid (done_any HRD7.out 0 (by rw [if_pos hdn]))
    have hl := three_yes HN1.out HN2.out HN3.out hdn
    have hpc := pcheck n1 n2 n3 w8
    cases hc : pchk n1 n2 n3 with
    | true =>
      rw [hc] at hpc
      have HPc : Hid (Calls Tryd.prog 28 #[.agg #[.int .i64 n1, .int .i64 n2, .int .i64 n3]] w8 fun e w' => e = .returned (.int .i64 0) ∧ Below w8.heap.size w8 w') := Lib.hid hpc
      have HV : Hid (VParse l n1 n2 n3 0) := Lib.hid (.inl ⟨rfl, n1, n2, n3, rfl, rfl, rfl, hc, hl⟩)
      clear hpc hc hl hdn
      go_wp2_with fail; (with_reducible refine (HDn.out).mono ?_); rintro e w9 ⟨rfl, rfl⟩
      go_wp2_with fail; (with_reducible refine (HPc.out).mono ?_); rintro e w9 ⟨rfl, hb9⟩
      obtain ⟨h9, hF⟩ := HFin.out _ hb9
      obtain ⟨x0, x1, x2, xf⟩ := cell3v h9
      have f0 := xf 0
      have f1 := xf 1
      have f2 := xf 2
      have c0 := cell_next y0 _ hb9
      have c1 := cell_next y1 _ hb9
      have c2 := cell_next y2 _ hb9
      have HF := Lib.hid hF
      clear xf h9 hF
      go_wp2
      have hz := HF.out (.int .i64 n1) (.int .i64 n2) (.int .i64 n3)
      generalize (((w9.setCell ⟨w.heap.size, 0, none⟩ (.int .i64 n1)).setCell ⟨w.heap.size, 1, none⟩ (.int .i64 n2)).setCell ⟨w.heap.size, 2, none⟩ (.int .i64 n3)) = wz at *
      obtain ⟨r0, r1, r2, _⟩ := cell3v hz.1
      refine bodyPost_ret (v := .tuple #[.agg #[.int .i64 n1, .int .i64 n2, .int .i64 n3], .int .i64 0]) (by simp [results, Tryd.results25, go_sem, r0, r1, r2]) rfl ?_
      exact ⟨_, _, _, _, rfl, HV.out, hz.2⟩
    | false =>
      rw [hc] at hpc
      have HPc : Hid (Calls Tryd.prog 28 #[.agg #[.int .i64 n1, .int .i64 n2, .int .i64 n3]] w8 fun e w' => e = .returned (.int .i64 140) ∧ Below w8.heap.size w8 w') := Lib.hid hpc
      have HV : Hid (VParse l 0 0 0 140) := Lib.hid (.inr ⟨rfl, rfl, rfl, rfl, fun z a n h e => by
        obtain ⟨z', a', n', e1, e2, e3, h1, h2, h3⟩ := pchk_nat h
        obtain ⟨_, rfl, rfl, rfl⟩ := three_of HN1.out HN2.out HN3.out (by omega) (by omega) (by omega) e
        rw [hc] at h; cases h⟩)
      clear hpc hc hl hdn
      go_wp2_with fail; (with_reducible refine (HDn.out).mono ?_); rintro e w9 ⟨rfl, rfl⟩
      go_wp2_with fail; (with_reducible refine (HPc.out).mono ?_); rintro e w9 ⟨rfl, hb9⟩
      obtain ⟨h9, hF⟩ := HFin.out _ hb9
      obtain ⟨x0, x1, x2, xf⟩ := cell3v h9
      have f0 := xf 0
      have f1 := xf 1
      have f2 := xf 2
      have HF := Lib.hid hF
      clear xf h9 hF y0 y1 y2
      go_wp2
      have hz := HF.out (.int .i64 0) (.int .i64 0) (.int .i64 0)
      generalize (((w9.setCell ⟨w.heap.size, 0, none⟩ (.int .i64 0)).setCell ⟨w.heap.size, 1, none⟩ (.int .i64 0)).setCell ⟨w.heap.size, 2, none⟩ (.int .i64 0)) = wz at *
      obtain ⟨r0, r1, r2, _⟩ := cell3v hz.1
      refine bodyPost_ret (v := .tuple #[.agg #[.int .i64 0, .int .i64 0, .int .i64 0], .int .i64 140]) (by simp [results, Tryd.results25, go_sem, r0, r1, r2]) rfl ?_
      exact ⟨_, _, _, _, rfl, HV.out, hz.2⟩
  · have HDn : Hid (Calls Tryd.prog 48 #[.pointer (some ⟨p, 0, none⟩)] w8 fun e w' => e = .returned (.int .i64 20) ∧ w8 = w') := Lib.hid (done_any HRD7.out 20 (by rw [if_neg hdn]))
    have HV : Hid (VParse l 0 0 0 140) := Lib.hid (.inr ⟨rfl, rfl, rfl, rfl, fun z a n h e => by
      obtain ⟨z', a', n', e1, e2, e3, h1, h2, h3⟩ := pchk_nat h
      exact hdn (three_of HN1.out HN2.out HN3.out (by omega) (by omega) (by omega) e).1⟩)
    clear hdn
    go_wp2_with fail; (with_reducible refine (HDn.out).mono ?_); rintro e w9 ⟨rfl, rfl⟩
    obtain ⟨h9, hF⟩ := HFin.out _ (Below.refl _ _)
    obtain ⟨x0, x1, x2, xf⟩ := cell3v h9
    have f0 := xf 0
    have f1 := xf 1
    have f2 := xf 2
    have HF := Lib.hid hF
    clear xf h9 hF y0 y1 y2
    go_wp2
    have hz := HF.out (.int .i64 0) (.int .i64 0) (.int .i64 0)
    generalize (((w8.setCell ⟨w.heap.size, 0, none⟩ (.int .i64 0)).setCell ⟨w.heap.size, 1, none⟩ (.int .i64 0)).setCell ⟨w.heap.size, 2, none⟩ (.int .i64 0)) = wz at *
    obtain ⟨r0, r1, r2, _⟩ := cell3v hz.1
    refine bodyPost_ret (v := .tuple #[.agg #[.int .i64 0, .int .i64 0, .int .i64 0], .int .i64 140]) (by simp [results, Tryd.results25, go_sem, r0, r1, r2]) rfl ?_
    exact ⟨_, _, _, _, rfl, HV.out, hz.2⟩
theorem ptrB_inj {z a n z' a' n' : Nat} (h1 : z ≤ 65536) (h2 : a ≤ 65536) (h3 : n ≤ 65536) (k1 : z' ≤ 65536) (k2 : a' ≤ 65536) (k3 : n' ≤ 65536) (e : ptrB z a n = ptrB z' a' n') : z = z' ∧ a = a' ∧ n = n' := by
  have f : ∀ x y t : Nat, x ≤ 65536 → y ≤ 65536 → t ≤ 65536 → rdNum 9 true (ptrB x y t) = some (x, num y ++ num t) ∧ rdNum 9 true (num y ++ num t) = some (y, num t) ∧ rdNum 9 true (num t) = some (t, []) := fun x y t hx hy ht => ⟨by unfold ptrB; rw [List.append_assoc]; exact rdNum9_num (by omega) _, rdNum9_num (by omega) _, by have := rdNum9_num (n := t) (by omega) []; rwa [List.append_nil] at this⟩
  obtain ⟨p1, p2, p3⟩ := f z a n h1 h2 h3
  obtain ⟨q1, q2, q3⟩ := f z' a' n' k1 k2 k3
  rw [e, q1, Option.some.injEq, Prod.mk.injEq] at p1
  obtain ⟨e1, e2⟩ := p1
  rw [← e2, q2, Option.some.injEq, Prod.mk.injEq] at p2
  obtain ⟨e3, e4⟩ := p2
  rw [← e4, q3, Option.some.injEq, Prod.mk.injEq] at p3
  exact ⟨e1.symm, e3.symm, p3.1.symm⟩
theorem VParse.back {z a n : Nat} {zz aa nn er : Int} (h : VParse (ptrB z a n) zz aa nn er) (hp : pchk z a n = true) : zz = z ∧ aa = a ∧ nn = n ∧ er = 0 := by
  obtain ⟨_, _, _, e1, e2, e3, h1, h2, h3⟩ := pchk_nat hp
  rcases h with ⟨h4, z', a', n', rfl, rfl, rfl, hq, e⟩ | ⟨_, _, _, _, h4⟩
  · obtain ⟨_, _, _, f1, f2, f3, k1, k2, k3⟩ := pchk_nat hq
    obtain ⟨rfl, rfl, rfl⟩ := ptrB_inj (by omega) (by omega) (by omega) (by omega) (by omega) (by omega) e
    exact ⟨rfl, rfl, rfl, h4⟩
  · exact absurd rfl (h4 z a n hp)
set_option maxRecDepth 100000 in
set_option maxHeartbeats 8000000 in
theorem law14_pa {w : World} (hT : Tab9 w) (str : ByteArray) (hs : str.size ≤ maxLen) :
    Calls Tryd.prog 5 #[.string str] w fun e w' => e = .returned (.bool true) ∧ Below w.heap.size w w' := by
  have HT := Lib.hid hT
  unfold maxLen at hs
  clear hT
  by_cases h5 : 500 < str.size
  · have HA := Lib.hid (awake14 HT.out)
    go_enter Tryd.func5, Tryd.ntmps5
    go_wp2_with fail; (with_reducible refine (HA.out).mono ?_); rintro e w1 ⟨rfl, hb1⟩
    go_wp2
    go_ret
    exact ⟨rfl, hb1⟩
  · have HP := Lib.hid (vparse str w (by omega))
    go_enter Tryd.func5, Tryd.ntmps5
    go_wp2_with fail; (with_reducible refine (HP.out).mono ?_); rintro e w1 ⟨zz, aa, nn, er, rfl, hv, hb1⟩
    have HB1 := Lib.hid hb1
    rcases hv with ⟨rfl, z, a, n, rfl, rfl, rfl, hc, hl⟩ | ⟨rfl, rfl, rfl, rfl, _⟩
    · obtain ⟨_, _, _, e1, e2, e3, h1, h2, h3⟩ := pchk_nat hc
      have hse : str = ⟨(ptrB z a n).toArray⟩ := by cases str; simp only at hl; rw [← hl]
      have hbp := (Below.refl w1.heap.size w1).alloc (Nat.le_refl _) (.cells #[.int .i64 z, .int .i64 a, .int .i64 n] 25)
      obtain ⟨p0, p1, p2⟩ := cells3n (w := w1) (a := .int .i64 z) (b := .int .i64 a) (c := .int .i64 n) (T := 25)
      have hr := prefright z a n (w1.alloc (.cells #[.int .i64 z, .int .i64 a, .int .i64 n] 25))
      rw [hc] at hr
      have HR := Lib.hid hr
      have HX := Lib.hid (preftext z a n (w1.alloc (.cells #[.int .i64 z, .int .i64 a, .int .i64 n] 25)) (by omega) (by omega) (by omega))
      have HB2 := Lib.hid (HB1.out.trans (hbp.mono HB1.out.size))
      clear hc hl hr hb1 hbp HP e1 e2 e3
      subst hse
      go_wp2_with fail; (with_reducible refine (HR.out).mono ?_); rintro e w3 ⟨rfl, hw3⟩
      subst hw3
      go_wp2_with fail; (with_reducible refine (HX.out).mono ?_); rintro e w4 ⟨rfl, hb4⟩
      have hb24 := HB2.out.trans (hb4.mono HB2.out.size)
      go_wp2_with fail; (with_reducible refine (awake14 (HT.out.below hb24)).mono ?_); rintro e w5 ⟨rfl, hb5⟩
      go_wp2
      go_ret
      exact ⟨by first | rfl | simp, hb24.trans (hb5.mono hb24.size)⟩
    · have hbp := (Below.refl w1.heap.size w1).alloc (Nat.le_refl _) (.cells #[.int .i64 0, .int .i64 0, .int .i64 0] 25)
      obtain ⟨p0, p1, p2⟩ := cells3n (w := w1) (a := .int .i64 0) (b := .int .i64 0) (c := .int .i64 0) (T := 25)
      have hpe := fun W => eqPtr 0 0 0 0 0 0 W
      have HB2 := Lib.hid (HB1.out.trans (hbp.mono HB1.out.size))
      have HA := Lib.hid (awake14 (HT.out.below HB2.out))
      clear hb1 hbp HP
      go_wp2_with fail; (with_reducible refine (HA.out).mono ?_); rintro e w5 ⟨rfl, hb5⟩
      go_wp2
      go_ret
      exact ⟨by first | rfl | simp, HB2.out.trans (hb5.mono HB2.out.size)⟩
set_option maxRecDepth 100000 in
set_option maxHeartbeats 8000000 in
theorem law14_po {w0 : World} (hT0 : Tab9 w0) (z a n : Int) :
    Calls Tryd.prog 6 #[.agg #[.int .i64 z, .int .i64 a, .int .i64 n]] w0 fun e w' => e = .returned (.bool true) ∧ Below w0.heap.size w0 w' := by
  obtain ⟨q0, q1, q2⟩ := cells3n (w := w0) (a := .int .i64 z) (b := .int .i64 a) (c := .int .i64 n) (T := 25)
  have HB0 : Hid (Below w0.heap.size w0 (w0.alloc (.cells #[.int .i64 z, .int .i64 a, .int .i64 n] 25))) := Lib.hid ((Below.refl _ w0).alloc (Nat.le_refl _) _)
  have Q0 := Lib.hid (cell_next q0)
  have Q1 := Lib.hid (cell_next q1)
  have Q2 := Lib.hid (cell_next q2)
  have HT := Lib.hid (hT0.below HB0.out)
  clear hT0
  go_enter Tryd.func6, Tryd.ntmps6
  go_upto_region 1 with (fail)
  generalize w0.alloc (.cells #[.int .i64 z, .int .i64 a, .int .i64 n] 25) = w at *
  cases hc : pchk z a n with
  | false =>
    have HX := Lib.hid (ptext_bad z a n w hc)
    have HR : Hid (∀ W, Calls Tryd.prog 17 #[.int .i64 z, .int .i64 a, .int .i64 n] W fun e w' => e = .returned (.bool false) ∧ W = w') := Lib.hid fun W => by
      have := prefright z a n W
      rw [hc] at this; exact this
    have HC : Hid (∀ W, Calls Tryd.prog 28 #[.agg #[.int .i64 z, .int .i64 a, .int .i64 n]] W fun e w' => e = .returned (.int .i64 140) ∧ Below W.heap.size W w') := Lib.hid fun W => by
      have := pcheck z a n W
      rw [hc] at this; exact this
    clear hc
    go_wp2_with fail; (with_reducible refine (HX.out).mono ?_); rintro e w1 ⟨rfl, hb1⟩
    have c0 := Q0.out _ hb1
    have c1 := Q1.out _ hb1
    have c2 := Q2.out _ hb1
    go_wp2_with fail; (with_reducible refine (HR.out _).mono ?_); rintro e w2 ⟨rfl, hw2⟩
    subst hw2
    go_wp2_with fail; (with_reducible refine (HC.out _).mono ?_); rintro e w3 ⟨rfl, hb3⟩
    have hb13 := hb1.trans (hb3.mono hb1.size)
    go_wp2_with fail; (with_reducible refine (awake14 (HT.out.below hb13)).mono ?_); rintro e w4 ⟨rfl, hb4⟩
    go_wp2
    go_ret
    exact ⟨by first | rfl | simp, HB0.out.trans ((hb13.trans (hb4.mono hb13.size)).mono HB0.out.size)⟩
  | true =>
    obtain ⟨z', a', n', rfl, rfl, rfl, h1, h2, h3⟩ := pchk_nat hc
    have HX := Lib.hid (ptext z' a' n' w hc (by omega) h2 h3)
    have HR : Hid (∀ W, Calls Tryd.prog 17 #[.int .i64 z', .int .i64 a', .int .i64 n'] W fun e w' => e = .returned (.bool true) ∧ W = w') := Lib.hid fun W => by
      have := prefright z' a' n' W
      rw [hc] at this; exact this
    have HC : Hid (∀ W, Calls Tryd.prog 28 #[.agg #[.int .i64 z', .int .i64 a', .int .i64 n']] W fun e w' => e = .returned (.int .i64 0) ∧ Below W.heap.size W w') := Lib.hid fun W => by
      have := pcheck z' a' n' W
      rw [hc] at this; exact this
    have HRT : Hid (∀ W, Calls Tryd.prog 26 #[.int .i64 z', .int .i64 a', .int .i64 n'] W fun e w' => e = .returned (.string ⟨(ptrB z' a' n').toArray⟩) ∧ Below W.heap.size W w') := Lib.hid fun W => preftext z' a' n' W (by omega) h2 h3
    have hlen := ptrB_len (show z' ≤ 65536 by omega) h2 h3
    have HVP : Hid (∀ W, Calls Tryd.prog 25 #[.string ⟨(ptrB z' a' n').toArray⟩] W fun e w' => e = .returned (.tuple #[.agg #[.int .i64 z', .int .i64 a', .int .i64 n'], .int .i64 0]) ∧ Below W.heap.size W w') := Lib.hid fun W => by
      refine (vparse ⟨(ptrB z' a' n').toArray⟩ W (by show (ptrB z' a' n').toArray.size ≤ _; rw [List.size_toArray]; omega)).mono ?_
      rintro e w' ⟨zz, aa, nn, er, rfl, hv, hb⟩
      obtain ⟨rfl, rfl, rfl, rfl⟩ := VParse.back hv hc
      exact ⟨rfl, hb⟩
    clear hc hlen
    generalize (⟨(ptrB z' a' n').toArray⟩ : ByteArray) = S at *
    go_wp2_with fail; (with_reducible refine (HX.out).mono ?_); rintro e w1 ⟨rfl, hb1⟩
    have c0 := Q0.out _ hb1
    have c1 := Q1.out _ hb1
    have c2 := Q2.out _ hb1
    go_wp2_with fail; (with_reducible refine (HR.out _).mono ?_); rintro e w2 ⟨rfl, hw2⟩
    subst hw2
    go_wp2_with fail; (with_reducible refine (HVP.out _).mono ?_); rintro e w3 ⟨rfl, hb3⟩
    have hb13 := hb1.trans (hb3.mono hb1.size)
    have hbp := (Below.refl w3.heap.size w3).alloc (Nat.le_refl _) (.cells #[.int .i64 z', .int .i64 a', .int .i64 n'] 25)
    obtain ⟨p0, p1, p2⟩ := cells3n (w := w3) (a := .int .i64 z') (b := .int .i64 a') (c := .int .i64 n') (T := 25)
    have P0 := Lib.hid (cell_next p0)
    have P1 := Lib.hid (cell_next p1)
    have P2 := Lib.hid (cell_next p2)
    have HB4 := Lib.hid (hb13.trans (hbp.mono hb13.size))
    have d0 := Q0.out _ HB4.out
    have d1 := Q1.out _ HB4.out
    have d2 := Q2.out _ HB4.out
    clear hb1 hb3 hb13 hbp c0 c1 c2 p0 p1 p2
    go_wp2_with fail; (with_reducible refine (HC.out _).mono ?_); rintro e w5 ⟨rfl, hb5⟩
    have hb45 := HB4.out.trans (hb5.mono HB4.out.size)
    have e0 := Q0.out _ hb45
    have e1 := Q1.out _ hb45
    have e2 := Q2.out _ hb45
    go_wp2_with fail; (with_reducible refine (HRT.out _).mono ?_); rintro e w6 ⟨rfl, hb6⟩
    have hb46 := hb45.trans (hb6.mono hb45.size)
    have f0 := Q0.out _ hb46
    have f1 := Q1.out _ hb46
    have f2 := Q2.out _ hb46
    have hb56 := hb5.trans (hb6.mono hb5.size)
    have g0 := P0.out _ hb56
    have g1 := P1.out _ hb56
    have g2 := P2.out _ hb56
    have hpe := fun W => eqPtr z' a' n' z' a' n' W
    go_wp2_with fail; (with_reducible refine (awake14 (HT.out.below hb46)).mono ?_); rintro e w7 ⟨rfl, hb7⟩
    go_wp2
    go_ret
    exact ⟨by first | rfl | simp, HB0.out.trans ((hb46.trans (hb7.mono hb46.size)).mono HB0.out.size)⟩
end Go.Proofs.YtmhklmecpbdljaaDoor
