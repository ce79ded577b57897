/- Chapter 14: VlogBack. -/
import Derived.Test.YtmhklmecpbdljaaDoorYJn
namespace Go.Proofs.YtmhklmecpbdljaaDoor
open Go.RowKit Go.Shelf
set_option linter.unusedVariables false
set_option linter.unusedSimpArgs false

set_option maxRecDepth 100000 in
set_option maxHeartbeats 32000000 in
theorem law14_b {w : World} (hT : Tab9 w) {a : Option Addr} {c : Nat} {l : List It} (h : VIs w a l) (hl : l.length ≤ maxLen) :
    Calls Tryd.prog 8 #[.slice a l.length c] w fun e w' => e = .returned (.bool true) ∧ Below w.heap.size w w' := by
  have hlm := hl
  unfold maxLen at hl
  have HT := Lib.hid hT
  have H := Lib.hid h
  clear hT h
  go_enter Tryd.func8, Tryd.ntmps8
  go_wp2_with fail; (with_reducible refine (device14 w).mono ?_); rintro e w1 ⟨p, F1, rfl, hD1, hb1⟩
  have HB1 := Lib.hid hb1
  have HD1 := Lib.hid hD1
  have hsm : Calls Tryd.prog 10 #[.slice a l.length c] w1 (Small14 w1 l) := small14 (H.out.below hb1) hlm
  have HSm := Lib.hid hsm
  clear hb1 hD1 hsm
  go_wp2_with fail; (with_reducible refine (HSm.out).mono ?_); rintro e w2 ⟨sm, rfl, hsz, hb2⟩
  have HB2 := Lib.hid (HB1.out.trans (hb2.mono HB1.out.size))
  have HD2 := Lib.hid (HD1.out.below hb2)
  have HA := Lib.hid (awake14 (HT.out.below HB2.out))
  have HSZ := Lib.hid hsz
  clear hb2 hsz HSm HD1 HB1
  cases sm with
  | false =>
    go_wp2_with fail; (with_reducible refine (HA.out).mono ?_); rintro e w3 ⟨rfl, hb3⟩
    go_wp2
    go_ret
    exact ⟨rfl, HB2.out.trans (hb3.mono HB2.out.size)⟩
  | true =>
    obtain ⟨hsmall, hlc⟩ := HSZ.out.1 rfl
    have HSmall := Lib.hid hsmall
    have hnew : Calls Tryd.prog 12 #[.pointer (some ⟨p, 0, none⟩), .slice none 0 0] w2 fun e w' => ∃ q F, e = .returned (.pointer (some ⟨q, 0, none⟩)) ∧ LI w' w.heap.size q p F (dv0 4 400 4) [] ∧ Below w2.heap.size w2 w' := lnew (zs := []) (a := none) (c := 0) HD2.out (fun h => absurd h (Nat.lt_irrefl _)) (fun _ => rfl) (by decide)
    have HNew := Lib.hid hnew
    clear hnew hsmall HA
    go_wp2_with fail; (with_reducible refine (HNew.out).mono ?_); rintro e w3 ⟨q, F3, rfl, hL3, hb3⟩
    have HL3 := Lib.hid hL3
    have HB3 := Lib.hid (HB2.out.trans (hb3.mono HB2.out.size))
    clear hL3 hb3 HNew HD2 HB2
    go_wp2
    go_loopw [5, 6, 7, 45] (fun v1 v2 nx i wr => ∃ (m nn : Nat) (D : Dv) (F : Nat → Prop) (L : List (List (List UInt8))) (WL : List Vv), m ≤ l.length ∧ i = .int .i64 m ∧ nx = .int .i64 nn ∧ nn = L.length ∧ BkI w wr q p m v1 v2 D F L WL) (fun _ _ _ i _ => l.length - (intOf i).toNat)
    case atStart => exact ⟨0, 0, dv0 4 400 4, F3, [], [], Nat.zero_le _, rfl, rfl, rfl, CB.new, Nat.le_refl _, HL3.out, rfl, World.ownsRow_nil _ _ _ _, World.ownsRow_nil _ _ _ _, fun x hx => by simp [Value.ownBlock] at hx, fun x hx => by simp [Value.ownBlock] at hx, Nat.le_refl _, fun y hy => (nomatch hy), HB3.out⟩
    case round =>
      clear HL3 HB3
      obtain ⟨m, nn, D, F, L, WL, hm, rfl, rfl, hnn, hbk⟩ := hrel
      have HNN := Lib.hid hnn
      have HBk := Lib.hid hbk
      have hbr : Below w.heap.size w wr := hbk.2.2.2.2.2.2.2.2.2.2
      have hn4 : nn ≤ 4 := by rw [hnn]; exact hbk.1.len
      obtain ⟨va, vc, rfl, hvc, _⟩ := row_shape hbk.2.2.2.2.1
      obtain ⟨pa, pc, rfl, hpc, _⟩ := row_shape hbk.2.2.2.2.2.1
      have hfz : ∀ k, F k → k < wr.heap.size := fun k hk => (hbk.2.2.1.ge k hk).2
      have HFz := Lib.hid hfz
      clear hnn hbk hfz
      by_cases hlt : m < l.length
      · obtain ⟨b, off, rfl, d0, d1, d2, d3, hok⟩ := H.out.cell hbr m hlt
        have hsx := HSmall.out _ (List.getElem_mem hlt)
        clear hok
        generalize l[m] = x at *
        obtain ⟨xu, xs, xk, xv⟩ := x
        simp only at d0 d1 d2 d3
        have hxv : xv.size ≤ 500 := hsx.2
        have hxu : xu.size ≤ maxLen := by have h1 : xu.size ≤ 200 := hsx.1; unfold maxLen; omega
        have hbx := (Below.refl wr.heap.size wr).alloc (Nat.le_refl _) (.cells #[.string xu, .int .i64 xs, .int .i64 xk, .string xv] 37)
        obtain ⟨y0, y1, y2, y3⟩ := cells4n (w := wr) (a := .string xu) (b := .int .i64 xs) (c := .int .i64 xk) (d := .string xv) (T := 37)
        have HX5 := Lib.hid (HBk.out.below hbx (Nat.le_refl _))
        have HTq : Hid (∀ k, (Value.slice va WL.length vc).ownBlock = some k → k < wr.heap.size) := Lib.hid fun k hk => (World.ownsRow.lt HBk.out.2.2.2.2.1 k hk).2
        have hwz : wr.heap.size < (wr.alloc (.cells #[.string xu, .int .i64 xs, .int .i64 xk, .string xv] 37)).heap.size := by simp
        go_upto_region 13 with (fail)
        clear d0 d1 d2 d3 hbx hsx HBk hbr
        generalize wr.alloc (.cells #[.string xu, .int .i64 xs, .int .i64 xk, .string xv] 37) = w5 at *
        obtain ⟨tq, htq⟩ : ∃ tq, wr.heap.size = tq := ⟨_, rfl⟩
        rw [htq] at y0 y1 y2 y3 hwz HFz HTq ⊢
        clear htq
        have Y0 := Lib.hid (cell_next y0)
        have Y1 := Lib.hid (cell_next y1)
        have Y2 := Lib.hid (cell_next y2)
        have Y3 := Lib.hid (cell_next y3)
        have HRr := Lib.hid (fun W => refright xu xs xk W hxu)
        have HRf := Lib.hid (fun W => lawref14 xu xs xk W)
        go_wp2_with fail; (with_reducible refine (HRf.out _).mono ?_); rintro e w6 ⟨rfl, hb6⟩
        go_wp2_with fail; (with_reducible refine (HRr.out _).mono ?_); rintro e w7 ⟨rfl, hb7⟩
        have hb57 := hb6.trans (hb7.mono hb6.size)
        have HB57 := Lib.hid hb57
        have z0 := Y0.out _ hb57
        have z1 := Y1.out _ hb57
        have z2 := Y2.out _ hb57
        have z3 := Y3.out _ hb57
        clear hb6 hb7 hb57 y0 y1 y2 y3 HRr
        cases hr : keyRight xu xs xk with
        | false =>
          have HPb := Lib.hid (put_bad q xu xs xk xv w7 hr)
          have HVb := Lib.hid (fun W => vsize_bad xu xs xk xv W hr)
          clear hr
          go_wp2_with fail; (with_reducible refine (HPb.out).mono ?_); rintro e w8 ⟨rfl, hb8⟩
          have hbp := (Below.refl w8.heap.size w8).alloc (Nat.le_refl _) (.cells #[.int .i64 0, .int .i64 0, .int .i64 0] 25)
          have hb59 := HB57.out.trans ((hb8.trans (hbp.mono hb8.size)).mono HB57.out.size)
          have u0 := Y0.out _ hb59
          have u1 := Y1.out _ hb59
          have u2 := Y2.out _ hb59
          have u3 := Y3.out _ hb59
          have HB59 := Lib.hid hb59
          clear hb8 hbp hb59 z0 z1 z2 z3
          go_wp2_with fail; (with_reducible refine (HVb.out _).mono ?_); rintro e w10 ⟨rfl, hb10⟩
          have HX := Lib.hid (HX5.out.below (HB59.out.trans (hb10.mono HB59.out.size)) (Nat.le_succ m))
          clear hb10
          go_wp2
          go_roundw
          case rel => exact ⟨m + 1, nn, D, F, L, WL, by omega, by go_num, rfl, HNN.out, HX.out⟩
          case measure => simp [intOf]; omega
        | true =>
          have HR := Lib.hid hr
          have hrl := recB_len hr xv (by omega)
          have HRc : Hid (∀ W, Calls Tryd.prog 21 #[.agg #[.string xu, .int .i64 xs, .int .i64 xk], .string xv] W fun e w' => ∃ v', e = .returned v' ∧ OB w' W.heap.size v' (recB xu xs xk xv) ∧ Below W.heap.size W w') := Lib.hid fun W => refrecord xu xs xk xv W hr (by omega)
          have HVs := Lib.hid (fun W => vsize_ok xu xs xk xv W hr (by omega))
          have HSz : Hid (∀ W : World, Calls Tryd.prog 23 #[.int .i64 ((recB xu xs xk xv).length : Nat)] W fun e w' => e = .returned (.int .i64 ((frB (recB xu xs xk xv)).length : Nat)) ∧ W = w') := Lib.hid fun W => by
            have := rsize_any (recB xu xs xk xv).length W (by omega)
            rw [← frB_len] at this
            exact this
          obtain ⟨fn, hfn⟩ : ∃ fn, (frB (recB xu xs xk xv)).length = fn := ⟨_, rfl⟩
          obtain ⟨rn, hrn⟩ : ∃ rn, (recB xu xs xk xv).length = rn := ⟨_, rfl⟩
          rw [hfn] at HVs HSz
          rw [hrn] at HSz hrl
          have hf5 := frB_pos (recB xu xs xk xv)
          rw [hfn] at hf5
          have HFn := Lib.hid hfn
          have HRn := Lib.hid hrn
          have hfz : fn ≤ 100000 := by
            have h1 := frB_len (recB xu xs xk xv)
            have h9 := num_len9 (n := (recB xu xs xk xv).length) (by omega)
            omega
          clear hr hfn hrn
          go_upto_region 17 with (fail)
          refine wp_region_held_drew (S := fun w' => w'.cell? ⟨tq, 0, none⟩ = some (.string xu) ∧ w'.cell? ⟨tq, 1, none⟩ = some (.int .i64 xs) ∧ w'.cell? ⟨tq, 2, none⟩ = some (.int .i64 xk) ∧ w'.cell? ⟨tq, 3, none⟩ = some (.string xv)) (by kernel_rfl) ⟨z0, z1, z2, z3⟩ (fun hHeld => ?_)
          refine wpAnyH_take (i := 0) (oi := ⟨some 73, _, _, _, _, _⟩) (v := ?_) rfl (by kernel_rfl) (by kernel_rfl) (by kernel_rfl) (fun _ _ _ h => h) (Or.inl ⟨by rfl, ?_⟩) (by assumption) ?_
          rotate_left
          · intro w hSw
            (try dsimp only at hSw)
            go_simp
            (try with_reducible rfl)
          (try simp only [Act.put, List.setIfInBounds_toArray, List.set_cons_zero, List.set_cons_succ])
          refine wpAnyH_take (i := 1) (oi := ⟨some 74, _, _, _, _, _⟩) (v := ?_) rfl (by kernel_rfl) (by kernel_rfl) (by kernel_rfl) (fun _ _ _ h => h) (Or.inl ⟨by rfl, ?_⟩) (by assumption) ?_
          rotate_left
          · intro w hSw
            (try dsimp only at hSw)
            go_simp
            (try with_reducible rfl)
          (try simp only [Act.put, List.setIfInBounds_toArray, List.set_cons_zero, List.set_cons_succ])
          refine wpAnyH_take (i := 3) (oi := ⟨some 76, _, _, _, _, _⟩) (v := ?_) rfl (by kernel_rfl) (by kernel_rfl) (by kernel_rfl) (fun _ _ _ h => h) (Or.inl ⟨by rfl, ?_⟩) (by assumption) ?_
          rotate_left
          · intro w hSw
            (try dsimp only at hSw)
            go_simp
            (try with_reducible rfl)
          (try simp only [Act.put, List.setIfInBounds_toArray, List.set_cons_zero, List.set_cons_succ])
          refine wpAnyH_take (i := 4) (oi := ⟨some 77, _, _, _, _, _⟩) (v := ?_) rfl (by kernel_rfl) (by kernel_rfl) (by kernel_rfl) (fun _ _ _ h => h) (Or.inl ⟨by rfl, ?_⟩) (by assumption) ?_
          rotate_left
          · intro w hSw
            (try dsimp only at hSw)
            go_simp
            (try with_reducible rfl)
          (try simp only [Act.put, List.setIfInBounds_toArray, List.set_cons_zero, List.set_cons_succ])
          refine wpAnyH_ready (rs := [2]) (by kernel_rfl) (by simp) ?_
          refine AllReadyH.cons (o := ⟨some 75, _, _, _, _, _⟩) rfl (fun K hK => ?_) ?_
          · go_simp
            (with_reducible refine (HRf.out _).mono ?_)
            rintro e w8 ⟨rfl, hb8⟩
            have hb58 : Below w5.heap.size w5 w8 := HB57.out.trans (((Below.refl _ w7).drew.trans hb8).mono HB57.out.size)
            have hq := And.intro (Y0.out _ hb58) (And.intro (Y1.out _ hb58) (And.intro (Y2.out _ hb58) (Y3.out _ hb58)))
            have HB58 := Lib.hid hb58
            clear hb8 hb58
            go_wp2_with fail
            refine hK.out _ _ ?_ (fun hHeld => ?_)
            · exact hq
            clear hK K
            (try simp only [Act.put, List.setIfInBounds_toArray, List.set_cons_zero, List.set_cons_succ])
            refine wpAnyH_ready (rs := [5]) (by kernel_rfl) (by simp) ?_
            refine AllReadyH.cons (o := ⟨some 78, _, _, _, _, _⟩) rfl (fun K hK => ?_) ?_
            · go_simp
              (with_reducible refine (HRc.out _).mono ?_)
              rintro e w9 ⟨v9, rfl, ho9, hb9⟩
              obtain ⟨a9, n9, c9, rfl, hm9⟩ := ho9.shape
              have hn9 := ho9.len
              rw [HRn.out] at hn9
              subst hn9
              have hb59 : Below w5.heap.size w5 w9 := HB58.out.trans (hb9.mono HB58.out.size)
              have hq9 := And.intro (Y0.out _ hb59) (And.intro (Y1.out _ hb59) (And.intro (Y2.out _ hb59) (Y3.out _ hb59)))
              have HB59 := Lib.hid hb59
              have HX9 := Lib.hid (HX5.out.below hb59 (Nat.le_refl _))
              clear ho9 hb9 hb59 hq z0 z1 z2 z3
              go_wp2_with fail
              refine hK.out _ _ ?_ (fun hHeld => ?_)
              · exact hq9
              clear hK K
              (try simp only [Act.put, List.setIfInBounds_toArray, List.set_cons_zero, List.set_cons_succ])
              refine wpAnyH_take (i := 6) (oi := ⟨some 79, _, _, _, _, _⟩) (v := ?_) rfl (by kernel_rfl) (by kernel_rfl) (by kernel_rfl) (fun _ _ _ h => h) (Or.inl ⟨by rfl, ?_⟩) (by assumption) ?_
              rotate_left
              · intro w hSw
                (try dsimp only at hSw)
                go_simp
                (try with_reducible rfl)
              (try simp only [Act.put, List.setIfInBounds_toArray, List.set_cons_zero, List.set_cons_succ])
              refine wpAnyH_take (i := 7) (oi := ⟨some 12, _, _, _, _, _⟩) (v := ?_) rfl (by kernel_rfl) (by kernel_rfl) (by kernel_rfl) (fun _ _ _ h => h) (Or.inl ⟨by rfl, ?_⟩) (by assumption) ?_
              rotate_left
              · intro w hSw
                (try dsimp only at hSw)
                go_simp
                (try with_reducible rfl)
              (try simp only [Act.put, List.setIfInBounds_toArray, List.set_cons_zero, List.set_cons_succ])
              refine wpAnyH_done (by kernel_rfl) ?_ _
              obtain ⟨z0, z1, z2, z3⟩ := hq9
              clear hHeld HX5 HRf HRc
              go_wp2_with fail; (with_reducible refine (HSz.out _).mono ?_); rintro e w10 ⟨rfl, hw10⟩
              subst hw10
              go_wp2_with fail; (with_reducible refine (HVs.out _).mono ?_); rintro e w10 ⟨rfl, hb10⟩
              have HX10 := Lib.hid (HX9.out.below hb10 (Nat.le_refl _))
              have HB510 := Lib.hid (HB59.out.trans (hb10.mono HB59.out.size))
              obtain ⟨r, hr0, hr1, hr2⟩ := HX10.out.room
              have HR0 := Lib.hid hr0
              have HR1 := Lib.hid hr1
              have HRm := Lib.hid hr2
              clear hb10 hr0 hr1 hr2 z0 z1 z2 z3 HX9 HB59
              go_wp2_with fail; (with_reducible refine (HRm.out).mono ?_); rintro e w11 ⟨rfl, hb11⟩
              have HX11 := Lib.hid (HX10.out.below hb11 (Nat.le_refl _))
              have hb511 := HB510.out.trans (hb11.mono HB510.out.size)
              have z0 := Y0.out _ hb511
              have z1 := Y1.out _ hb511
              have z2 := Y2.out _ hb511
              have z3 := Y3.out _ hb511
              have hz511 : tq < w11.heap.size := by have := hb511.size; omega
              clear hb11 hb511 HX10 HRm HB510
              have h3 : (r < (fn : Int) ∧ nn < 4) ∨ (r < (fn : Int) ∧ nn = 4) ∨ ((fn : Int) ≤ r) := by omega
              rcases h3 with ⟨hg1, hg2⟩ | ⟨hg1, hg2⟩ | hg1
              · skip
                have hG : Calls Tryd.prog 32 #[.pointer (some ⟨q, 0, none⟩), .int .i64 (nn : Nat)] w11 fun e w' => e = .returned (.int .i64 0) ∧ LOut w11 w.heap.size q p F D (List.range (L ++ [[]]).length) w' := by
                  rw [rng_snocB, HNN.out]
                  exact HX11.out.2.2.1.grow L.length (HX11.out.1.zst (by rw [← HNN.out]; exact hg2)) (by simp) (by rw [List.length_range, ← HNN.out]; omega)
                have HG := Lib.hid hG
                clear hG
                go_wp2_with fail; (with_reducible refine (HG.out).mono ?_); rintro e w12 ⟨rfl, ho12⟩
                have t0 := cell_chgv (F := F) z0 ho12.2 (fun hf => by have := HFz.out _ hf; omega)
                have t1 := cell_chgv (F := F) z1 ho12.2 (fun hf => by have := HFz.out _ hf; omega)
                have t2 := cell_chgv (F := F) z2 ho12.2 (fun hf => by have := HFz.out _ hf; omega)
                have t3 := cell_chgv (F := F) z3 ho12.2 (fun hf => by have := HFz.out _ hf; omega)
                obtain ⟨Fb, g1, g2, g3, g4, g5, g6, g7⟩ := HX11.out.turn _ ho12
                have hFb : ∀ k, Fb k → k ≠ tq := fun k hf => by
                  rcases g6 k hf with h | h
                  · have := HFz.out k h; omega
                  · omega
                have HXb : Hid (BkI w w12 q p m (.slice va WL.length vc) (.slice pa WL.length pc) D Fb (L ++ [[]]) WL) := Lib.hid ⟨HX11.out.1.grow (by rw [← HNN.out]; exact hg2), HX11.out.2.1, g1, by rw [vpre_grow]; exact HX11.out.2.2.2.1, g2, g3, g4, g5, HX11.out.2.2.2.2.2.2.2.2.1, HX11.out.2.2.2.2.2.2.2.2.2.1, g7⟩
                obtain ⟨nb, hnb⟩ : ∃ nb, nb = nn + 1 := ⟨_, rfl⟩
                have hni : ((nn : Int) + 1) = ((nb : Nat) : Int) := by omega
                obtain ⟨M, R, hMR⟩ : ∃ M R, L ++ [[]] = M ++ [R] := ⟨L, [], rfl⟩
                have hMl : nb = M.length + 1 := by
                  have := congrArg List.length hMR
                  simp only [List.length_append, List.length_singleton] at this
                  rw [hnb, HNN.out, this]
                clear ho12 g1 g2 g3 g4 g5 g6 g7 z0 z1 z2 z3 hnb HG
                rw [hMR] at HXb
                have HFb := Lib.hid hFb
                have HMl := Lib.hid hMl
                have HMR := Lib.hid hMR
                clear hFb hMl hMR
                obtain ⟨r2, hr20, hr21, hr22⟩ := HXb.out.room
                have hr2 := hr21 M R rfl
                have HR2 := Lib.hid hr2
                have HRm2 := Lib.hid hr22
                have T0 := Lib.hid (cell_next t0)
                have T1 := Lib.hid (cell_next t1)
                have T2 := Lib.hid (cell_next t2)
                have T3 := Lib.hid (cell_next t3)
                clear hr20 hr21 hr22 hr2 t0 t1 t2 t3
                go_wp2_with fail; (with_reducible refine (HRm2.out).mono ?_); rintro e w13 ⟨rfl, hb13⟩
                have HX13 := Lib.hid (HXb.out.below hb13 (Nat.le_refl _))
                have t0 := T0.out _ hb13
                have t1 := T1.out _ hb13
                have t2 := T2.out _ hb13
                have t3 := T3.out _ hb13
                have hdq := HX13.out.2.1
                obtain ⟨D', zz, aa, nv, er, hdn', hcase, hput⟩ := HX13.out.1.put HX13.out.2.2.1 (HT.out.below HX13.out.2.2.2.2.2.2.2.2.2.2) (v := xv) HR.out hxv (by omega)
                rw [HFn.out, HRn.out, ← HR2.out] at hcase
                have HPut := Lib.hid hput
                have HCase := Lib.hid hcase
                clear hput hcase hb13 T0 T1 T2 T3 HXb HRm2
                go_wp2_with fail; (with_reducible refine (HPut.out).mono ?_); rintro e w14 ⟨rfl, ho14⟩
                obtain ⟨Fp, g1, g2, g3, g4, g5, g6, g7⟩ := HX13.out.turn _ ho14
                have u0 := cell_chgv (F := Fb) t0 ho14.2 (fun hf => HFb.out _ hf rfl)
                have u1 := cell_chgv (F := Fb) t1 ho14.2 (fun hf => HFb.out _ hf rfl)
                have u2 := cell_chgv (F := Fb) t2 ho14.2 (fun hf => HFb.out _ hf rfl)
                have u3 := cell_chgv (F := Fb) t3 ho14.2 (fun hf => HFb.out _ hf rfl)
                have hbp := (Below.refl w14.heap.size w14).alloc (Nat.le_refl _) (.cells #[.int .i64 zz, .int .i64 aa, .int .i64 nv] 25)
                obtain ⟨p0, p1, p2⟩ := cells3n (w := w14) (a := .int .i64 zz) (b := .int .i64 aa) (c := .int .i64 nv) (T := 25)
                have hH14 : BkH w w14 q p (.slice va WL.length vc) (.slice pa WL.length pc) D' Fp (List.range (M ++ [R]).length) (WL.map Vv.x) WL := ⟨g1, by rw [List.length_map]; exact g2, g3, g4, g5, g7⟩
                have HH15 := Lib.hid (hH14.below hbp)
                have HIne : Hid (∀ k, (Value.slice va WL.length vc).ownBlock = some k → k ≠ w14.heap.size) := Lib.hid fun k hk e => by have := (World.ownsRow.lt g2 k hk).2; omega
                have s0 := cell_next u0 _ hbp
                have s1 := cell_next u1 _ hbp
                have s2 := cell_next u2 _ hbp
                have s3 := cell_next u3 _ hbp
                have htz : w14.heap.size < (w14.alloc (.cells #[.int .i64 zz, .int .i64 aa, .int .i64 nv] 25)).heap.size := by simp
                have htz2 : tq < (w14.alloc (.cells #[.int .i64 zz, .int .i64 aa, .int .i64 nv] 25)).heap.size := World.block_lt_of_cell? _ _ s0
                have HIne2 : Hid (∀ k, (Value.slice va WL.length vc).ownBlock = some k → k ≠ tq) := Lib.hid fun k hk e => by have := HTq.out k hk; omega
                clear t0 t1 t2 t3 u0 u1 u2 u3 ho14 hbp g1 g2 g3 g4 g5 g6 g7 hH14 HPut
                go_upto_region 27 with (fail)
                generalize w14.alloc (.cells #[.int .i64 zz, .int .i64 aa, .int .i64 nv] 25) = w15 at *
                obtain ⟨tp, htp⟩ : ∃ tp, w14.heap.size = tp := ⟨_, rfl⟩
                rw [htp] at p0 p1 p2 htz HIne ⊢
                clear htp
                rcases HCase.out with ⟨her, hle, hzz, haa, hnv, hcb, hpt, h400⟩ | ⟨her, hlt2, hzz, haa, hnv, hDD⟩
                rotate_left
                · subst hzz haa hnv
                  have hq1 : (er == 0) = false := by rw [beq_eq_false_iff_ne]; exact her
                  have hq2 : (er != 0) = true := by rw [bne_iff_ne]; exact her
                  have hq3 : decide ((fn : Int) ≤ r2) = false := decide_eq_false (by omega)
                  have hnp : (binOp .neq 25 (.agg #[.int .i64 0, .int .i64 0, .int .i64 0]) (.agg #[.int .i64 0, .int .i64 0, .int .i64 0])).run Tryd.prog w15 = .ok (.bool false) w15 := by rw [nePtr]; rfl
                  have HX : Hid (BkI w w15 q p (m + 1) (.slice va WL.length vc) (.slice pa WL.length pc) D Fp (M ++ [R]) WL) := Lib.hid (by
                    obtain ⟨g1, g2, g3, g4, g5, g6⟩ := HH15.out
                    rw [hDD] at g1
                    rw [List.length_map] at g2
                    exact ⟨HX13.out.1, by omega, g1, HX13.out.2.2.2.1, g2, g3, g4, g5, by have := HX13.out.2.2.2.2.2.2.2.2.1; omega, HX13.out.2.2.2.2.2.2.2.2.2.1, g6⟩)
                  clear her hlt2 hDD hdn' HCase HX13 HH15 s0 s1 s2 s3 HIne HIne2 hg1
                  go_wp2
                  go_roundw
                  case rel => exact ⟨m + 1, nb, D, Fp, M ++ [R], WL, by omega, by go_num, by first | rfl | go_num, by rw [List.length_append, HMl.out]; rfl, HX.out⟩
                  case measure => simp [intOf]; omega
                · subst her
                  obtain ⟨ml, hml⟩ : ∃ ml, M.length = ml := ⟨_, rfl⟩
                  obtain ⟨a0, ha0⟩ : ∃ a0, (flR R).length = a0 := ⟨_, rfl⟩
                  obtain ⟨pn, hpn⟩ : ∃ pn, a0 + fn = pn := ⟨_, rfl⟩
                  rw [hml] at hzz hpt
                  rw [ha0] at haa hpt h400
                  rw [hpn] at hpt h400
                  subst hzz haa hnv
                  have hnb1 : nb = ml + 1 := by rw [HMl.out, hml]
                  have hd : decide ((fn : Int) ≤ r2) = true := decide_eq_true hle
                  have hpl : (((ml : Nat) : Int) != ((nb : Nat) : Int) - 1) = false := by rw [bne_eq_false_iff_eq]; omega
                  have hpa : (((a0 : Nat) : Int) != ((pn : Nat) : Int) - ((fn : Nat) : Int)) = false := by rw [bne_eq_false_iff_eq]; omega
                  have hpf : fn ≤ pn := by omega
                  have hnb2 : 1 ≤ nb := by omega
                  have hnb3 : nb ≤ 65 := by
                    have h1 := hcb.len
                    rw [List.length_append, hml, List.length_singleton] at h1
                    omega
                  have HNb1 := Lib.hid hnb1
                  have HMl0 := Lib.hid hml
                  have HA0 := Lib.hid ha0
                  have HCB := Lib.hid hcb
                  have HPt : Hid (∀ W, Below w15.heap.size w15 W → Calls Tryd.prog 24 #[.pointer (some ⟨p, 0, none⟩), .int .i64 (ml : Nat)] W fun e w' => e = .returned (.int .i64 (pn : Nat)) ∧ Below W.heap.size W w') := Lib.hid fun W hW => by
                    have h1 := (HH15.out.1.below hW).pointer (ml : Nat)
                    rw [hpt] at h1
                    exact h1.mono fun e w' ⟨a, b⟩ => ⟨a, by rw [← b]; exact Below.refl _ _⟩
                  have hdd : D'.done ≤ m + 1 := by omega
                  have Bq := bnext_grow (Below.refl w15.heap.size w15)
                  have P0 := cell_next p0
                  have P1 := cell_next p1
                  have P2 := cell_next p2
                  clear hnb1 hml ha0 hpn hpt hcb hle hdn' hg1
                  go_upto_region 30 with (fail)
                  refine wp_region_quiet_below (by kernel_rfl) (by kernel_rfl) ?_; (repeat (go_big_quiet_step ((go_at_call 24; (with_reducible refine Calls.regrown_of (HPt.out _ (Bq _ _))))))); refine wpQuiet_nil ?_; rintro _ ⟨pq, rfl⟩
                  have hB16 := Bq pq.d pq.os
                  generalize Go.Sort.grow (redrawn w15 pq.d) pq.os = w16 at *
                  have HH16 := Lib.hid (HH15.out.below hB16)
                  have HRow16 : Hid (w16.ownsRow w.heap.size 37 4 (.slice va WL.length vc) WL.length (itvs (WL.map Vv.x))) := Lib.hid (by have h := HH16.out.2.1; rw [List.length_map] at h; exact h)
                  have i0 := cell_next s0 _ hB16
                  have i1 := cell_next s1 _ hB16
                  have i2 := cell_next s2 _ hB16
                  have i3 := cell_next s3 _ hB16
                  have j0 := P0 _ hB16
                  have j1 := P1 _ hB16
                  have j2 := P2 _ hB16
                  have hz16 : tq < w16.heap.size := World.block_lt_of_cell? _ _ i0
                  have hz17 : tp < w16.heap.size := World.block_lt_of_cell? _ _ j0
                  have hzw := HH16.out.2.2.2.2.2.size
                  have hWm := HX13.out.2.2.2.2.2.2.2.2.1
                  have hWl : WL.length ≤ 140737488355328 := by omega
                  have HZ : Hid (∀ v' w', w'.ownsRow w.heap.size 37 4 v' (WL.length + 1) (itvs (WL.map Vv.x) ++ [.string xu, .int .i64 xs, .int .i64 xk, .string xv]) → App w16 w' (.slice va WL.length vc) v' → (∃ a c, v' = .slice a (WL.length + 1) c) ∧ BkH w w' q p v' (.slice pa WL.length pc) D' Fp (List.range (M ++ [R]).length) (WL.map Vv.x ++ [⟨xu, xs, xk, xv⟩]) WL ∧ w'.cell? ⟨tp, 0, none⟩ = some (.int .i64 (ml : Nat)) ∧ w'.cell? ⟨tp, 1, none⟩ = some (.int .i64 (a0 : Nat)) ∧ w'.cell? ⟨tp, 2, none⟩ = some (.int .i64 ((n9 : Nat) : Int))) := Lib.hid fun v' w' h1 h2 => by
                    obtain ⟨a', c', hv, _⟩ := row_shape h1
                    have hc := Chg.of_app h2
                    have hno : ¬ ((Value.slice va WL.length vc).ownBlock = some tp) := fun e => HIne.out _ e rfl
                    exact ⟨⟨a', c', hv⟩, HH16.out.app1 (by rw [List.length_map]; exact h1) h2, cell_chgv j0 hc hno, cell_chgv j1 hc hno, cell_chgv j2 hc hno⟩
                  obtain ⟨i0', hi, hz0, hz1, hz2⟩ := info_parts infoIt
                  obtain ⟨k0', ki, kz0, kz1, kz2⟩ := info_parts infoPt
                  clear s0 s1 s2 s3 p0 p1 p2 P0 P1 P2 Bq hB16 HPt HH15 hd HCase
                  go_upto_region 33 with (at_builtin; go_loud (refine wpList_appN rfl (.tmp 153) (.tmp 155) 22 37 i0' (.agg #[.string ⟨#[]⟩, .int .i64 0, .int .i64 0, .string ⟨#[]⟩]) 4 48 Tryd.underlying22 hi hz0 hz1 hz2 rfl (by decide) rfl w.heap.size _ WL.length (itvs (WL.map Vv.x)) rfl HRow16.out #[.string xu, .int .i64 xs, .int .i64 xk, .string xv] 1 1 (by first | rfl | (simp; done) | (simp; rfl)) rfl (by simp [Value.oneCell']) (by unfold maxLen; omega) (by omega) hzw ?_); intro v17 w17 ho17 _ ha17; have hz17 := HZ.out _ _ ho17 ha17; obtain ⟨⟨a17, c17, rfl⟩, hx17, r0, r1, r2'⟩ := hz17; have HX17 := Lib.hid hx17; clear ho17 ha17 hx17)
                  have HRow17 := Lib.hid HX17.out.2.2.1
                  have hzw2 := HX17.out.2.2.2.2.2.size
                  have HK3 : Hid (∀ v' w', w'.ownsRow w.heap.size 25 3 v' (WL.length + 1) (pvs WL ++ [.int .i64 (ml : Nat), .int .i64 (a0 : Nat), .int .i64 (n9 : Nat)]) → App w17 w' (.slice pa WL.length pc) v' → (∃ a c, v' = .slice a (WL.length + 1) c) ∧ BkI w w' q p (m + 1) (.slice a17 (WL.length + 1) c17) v' D' Fp (M ++ [R ++ [recB xu xs xk xv]]) (WL ++ [⟨⟨xu, xs, xk, xv⟩, (ml : Nat), (a0 : Nat), (n9 : Nat)⟩])) := Lib.hid fun v' w' h1 h2 => by
                    obtain ⟨a', c', hv, _⟩ := row_shape h1
                    obtain ⟨g1, g2, g3, g4, g5, g6⟩ := HX17.out.app2 (x := ⟨⟨xu, xs, xk, xv⟩, (ml : Nat), (a0 : Nat), (n9 : Nat)⟩) h1 h2
                    have e1 : WL.map Vv.x ++ [⟨xu, xs, xk, xv⟩] = (WL ++ [(⟨⟨xu, xs, xk, xv⟩, (ml : Nat), (a0 : Nat), (n9 : Nat)⟩ : Vv)]).map Vv.x := by rw [List.map_append]; rfl
                    have e2 : List.range (M ++ [R]).length = List.range (M ++ [R ++ [recB xu xs xk xv]]).length := by simp
                    have e3 := vpre_put M R (x := ⟨xu, xs, xk, xv⟩) HR.out (by simp only; omega)
                    have e4 : vpre (M ++ [R]) (M.length + 1) = WL := by have := HX13.out.2.2.2.1; rw [List.length_append] at this; exact this
                    rw [e1] at g2
                    rw [e2] at g1
                    rw [List.length_map] at g2
                    refine ⟨⟨a', c', hv⟩, HCB.out, hdd, g1, ?_, g2, g3, g4, g5, by rw [List.length_append, List.length_singleton]; omega, fun y hy => ?_, g6⟩
                    · rw [List.length_append, List.length_singleton, e3, e4, HMl0.out, HA0.out, HRn.out]
                    · rcases List.mem_append.1 hy with hy | hy
                      · exact HX13.out.2.2.2.2.2.2.2.2.2.1 y hy
                      · rw [List.mem_singleton] at hy
                        rw [hy]
                        exact hxv
                  clear hpl hpa
                  go_wp2_with (at_builtin; go_loud (refine wpList_appN rfl (.tmp 157) (.tmp 159) 71 25 k0' (.agg #[.int .i64 0, .int .i64 0, .int .i64 0]) 3 24 Tryd.underlying71 ki kz0 kz1 kz2 rfl (by decide) rfl w.heap.size _ WL.length (pvs WL) rfl HRow17.out #[.int .i64 (ml : Nat), .int .i64 (a0 : Nat), .int .i64 (n9 : Nat)] 1 1 (by first | rfl | (simp; done) | (simp; rfl)) rfl (by simp [Value.oneCell']) (by unfold maxLen; omega) (by omega) hzw2 ?_); intro v18 w18 ho18 _ ha18; have hz18 := HK3.out _ _ ho18 ha18; obtain ⟨⟨a18, c18, rfl⟩, hx18⟩ := hz18; have HX18 := Lib.hid hx18; clear ho18 ha18 hx18)
                  go_roundw
                  case rel => exact ⟨m + 1, nb, D', Fp, M ++ [R ++ [recB xu xs xk xv]], WL ++ [⟨⟨xu, xs, xk, xv⟩, (ml : Nat), (a0 : Nat), (n9 : Nat)⟩], by omega, by go_num, by first | rfl | go_num, by rw [List.length_append, HMl.out]; rfl, by rw [List.length_append] at *; exact HX18.out⟩
                  case measure => simp [intOf]; omega
              · skip
                have hq4 : decide ((nn : Int) < 4) = false := decide_eq_false (by omega)
                have HN4 := Lib.hid hg2
                clear hg2
                obtain ⟨Fb, hFbe⟩ : ∃ Fb, Fb = F := ⟨_, rfl⟩
                have hFb : ∀ k, Fb k → k ≠ tq := fun k hf => by rw [hFbe] at hf; have := HFz.out k hf; omega
                have HXb : Hid (BkI w w11 q p m (.slice va WL.length vc) (.slice pa WL.length pc) D Fb L WL) := Lib.hid (by rw [hFbe]; exact HX11.out)
                obtain ⟨M, R, hMR⟩ : ∃ M R, L = M ++ [R] := by
                  rcases List.eq_nil_or_concat L with h0 | ⟨M, R, h0⟩
                  · exfalso
                    have h5 := HNN.out; rw [h0, List.length_nil] at h5; have := HN4.out; omega
                  · exact ⟨M, R, by rw [h0, List.concat_eq_append]⟩
                have hMl : nn = M.length + 1 := by rw [HNN.out, hMR, List.length_append]; rfl
                have t0 := z0
                have t1 := z1
                have t2 := z2
                have t3 := z3
                clear hFbe z0 z1 z2 z3
                rw [hMR] at HXb
                have HFb := Lib.hid hFb
                have HMl := Lib.hid hMl
                have HMR := Lib.hid hMR
                clear hFb hMl hMR
                obtain ⟨r2, hr20, hr21, hr22⟩ := HXb.out.room
                have hr2 := hr21 M R rfl
                have HR2 := Lib.hid hr2
                have HRm2 := Lib.hid hr22
                have T0 := Lib.hid (cell_next t0)
                have T1 := Lib.hid (cell_next t1)
                have T2 := Lib.hid (cell_next t2)
                have T3 := Lib.hid (cell_next t3)
                clear hr20 hr21 hr22 hr2 t0 t1 t2 t3
                go_wp2_with fail; (with_reducible refine (HRm2.out).mono ?_); rintro e w13 ⟨rfl, hb13⟩
                have HX13 := Lib.hid (HXb.out.below hb13 (Nat.le_refl _))
                have t0 := T0.out _ hb13
                have t1 := T1.out _ hb13
                have t2 := T2.out _ hb13
                have t3 := T3.out _ hb13
                have hdq := HX13.out.2.1
                obtain ⟨D', zz, aa, nv, er, hdn', hcase, hput⟩ := HX13.out.1.put HX13.out.2.2.1 (HT.out.below HX13.out.2.2.2.2.2.2.2.2.2.2) (v := xv) HR.out hxv (by omega)
                rw [HFn.out, HRn.out, ← HR2.out] at hcase
                have HPut := Lib.hid hput
                have HCase := Lib.hid hcase
                clear hput hcase hb13 T0 T1 T2 T3 HXb HRm2
                go_wp2_with fail; (with_reducible refine (HPut.out).mono ?_); rintro e w14 ⟨rfl, ho14⟩
                obtain ⟨Fp, g1, g2, g3, g4, g5, g6, g7⟩ := HX13.out.turn _ ho14
                have u0 := cell_chgv (F := Fb) t0 ho14.2 (fun hf => HFb.out _ hf rfl)
                have u1 := cell_chgv (F := Fb) t1 ho14.2 (fun hf => HFb.out _ hf rfl)
                have u2 := cell_chgv (F := Fb) t2 ho14.2 (fun hf => HFb.out _ hf rfl)
                have u3 := cell_chgv (F := Fb) t3 ho14.2 (fun hf => HFb.out _ hf rfl)
                have hbp := (Below.refl w14.heap.size w14).alloc (Nat.le_refl _) (.cells #[.int .i64 zz, .int .i64 aa, .int .i64 nv] 25)
                obtain ⟨p0, p1, p2⟩ := cells3n (w := w14) (a := .int .i64 zz) (b := .int .i64 aa) (c := .int .i64 nv) (T := 25)
                have hH14 : BkH w w14 q p (.slice va WL.length vc) (.slice pa WL.length pc) D' Fp (List.range (M ++ [R]).length) (WL.map Vv.x) WL := ⟨g1, by rw [List.length_map]; exact g2, g3, g4, g5, g7⟩
                have HH15 := Lib.hid (hH14.below hbp)
                have HIne : Hid (∀ k, (Value.slice va WL.length vc).ownBlock = some k → k ≠ w14.heap.size) := Lib.hid fun k hk e => by have := (World.ownsRow.lt g2 k hk).2; omega
                have s0 := cell_next u0 _ hbp
                have s1 := cell_next u1 _ hbp
                have s2 := cell_next u2 _ hbp
                have s3 := cell_next u3 _ hbp
                have htz : w14.heap.size < (w14.alloc (.cells #[.int .i64 zz, .int .i64 aa, .int .i64 nv] 25)).heap.size := by simp
                have htz2 : tq < (w14.alloc (.cells #[.int .i64 zz, .int .i64 aa, .int .i64 nv] 25)).heap.size := World.block_lt_of_cell? _ _ s0
                have HIne2 : Hid (∀ k, (Value.slice va WL.length vc).ownBlock = some k → k ≠ tq) := Lib.hid fun k hk e => by have := HTq.out k hk; omega
                clear t0 t1 t2 t3 u0 u1 u2 u3 ho14 hbp g1 g2 g3 g4 g5 g6 g7 hH14 HPut
                go_upto_region 27 with (fail)
                generalize w14.alloc (.cells #[.int .i64 zz, .int .i64 aa, .int .i64 nv] 25) = w15 at *
                obtain ⟨tp, htp⟩ : ∃ tp, w14.heap.size = tp := ⟨_, rfl⟩
                rw [htp] at p0 p1 p2 htz HIne ⊢
                clear htp
                rcases HCase.out with ⟨her, hle, hzz, haa, hnv, hcb, hpt, h400⟩ | ⟨her, hlt2, hzz, haa, hnv, hDD⟩
                rotate_left
                · subst hzz haa hnv
                  have hq1 : (er == 0) = false := by rw [beq_eq_false_iff_ne]; exact her
                  have hq2 : (er != 0) = true := by rw [bne_iff_ne]; exact her
                  have hq3 : decide ((fn : Int) ≤ r2) = false := decide_eq_false (by omega)
                  have hnp : (binOp .neq 25 (.agg #[.int .i64 0, .int .i64 0, .int .i64 0]) (.agg #[.int .i64 0, .int .i64 0, .int .i64 0])).run Tryd.prog w15 = .ok (.bool false) w15 := by rw [nePtr]; rfl
                  have HX : Hid (BkI w w15 q p (m + 1) (.slice va WL.length vc) (.slice pa WL.length pc) D Fp (M ++ [R]) WL) := Lib.hid (by
                    obtain ⟨g1, g2, g3, g4, g5, g6⟩ := HH15.out
                    rw [hDD] at g1
                    rw [List.length_map] at g2
                    exact ⟨HX13.out.1, by omega, g1, HX13.out.2.2.2.1, g2, g3, g4, g5, by have := HX13.out.2.2.2.2.2.2.2.2.1; omega, HX13.out.2.2.2.2.2.2.2.2.2.1, g6⟩)
                  clear her hlt2 hDD hdn' HCase HX13 HH15 s0 s1 s2 s3 HIne HIne2 hg1
                  go_wp2
                  go_roundw
                  case rel => exact ⟨m + 1, nn, D, Fp, M ++ [R], WL, by omega, by go_num, by first | rfl | go_num, by rw [List.length_append, HMl.out]; rfl, HX.out⟩
                  case measure => simp [intOf]; omega
                · subst her
                  obtain ⟨ml, hml⟩ : ∃ ml, M.length = ml := ⟨_, rfl⟩
                  obtain ⟨a0, ha0⟩ : ∃ a0, (flR R).length = a0 := ⟨_, rfl⟩
                  obtain ⟨pn, hpn⟩ : ∃ pn, a0 + fn = pn := ⟨_, rfl⟩
                  rw [hml] at hzz hpt
                  rw [ha0] at haa hpt h400
                  rw [hpn] at hpt h400
                  subst hzz haa hnv
                  have hnb1 : nn = ml + 1 := by rw [HMl.out, hml]
                  have hd : decide ((fn : Int) ≤ r2) = true := decide_eq_true hle
                  have hpl : (((ml : Nat) : Int) != ((nn : Nat) : Int) - 1) = false := by rw [bne_eq_false_iff_eq]; omega
                  have hpa : (((a0 : Nat) : Int) != ((pn : Nat) : Int) - ((fn : Nat) : Int)) = false := by rw [bne_eq_false_iff_eq]; omega
                  have hpf : fn ≤ pn := by omega
                  have hnb2 : 1 ≤ nn := by omega
                  have hnb3 : nn ≤ 65 := by
                    have h1 := hcb.len
                    rw [List.length_append, hml, List.length_singleton] at h1
                    omega
                  have HNb1 := Lib.hid hnb1
                  have HMl0 := Lib.hid hml
                  have HA0 := Lib.hid ha0
                  have HCB := Lib.hid hcb
                  have HPt : Hid (∀ W, Below w15.heap.size w15 W → Calls Tryd.prog 24 #[.pointer (some ⟨p, 0, none⟩), .int .i64 (ml : Nat)] W fun e w' => e = .returned (.int .i64 (pn : Nat)) ∧ Below W.heap.size W w') := Lib.hid fun W hW => by
                    have h1 := (HH15.out.1.below hW).pointer (ml : Nat)
                    rw [hpt] at h1
                    exact h1.mono fun e w' ⟨a, b⟩ => ⟨a, by rw [← b]; exact Below.refl _ _⟩
                  have hdd : D'.done ≤ m + 1 := by omega
                  have Bq := bnext_grow (Below.refl w15.heap.size w15)
                  have P0 := cell_next p0
                  have P1 := cell_next p1
                  have P2 := cell_next p2
                  clear hnb1 hml ha0 hpn hpt hcb hle hdn' hg1
                  go_upto_region 30 with (fail)
                  refine wp_region_quiet_below (by kernel_rfl) (by kernel_rfl) ?_; (repeat (go_big_quiet_step ((go_at_call 24; (with_reducible refine Calls.regrown_of (HPt.out _ (Bq _ _))))))); refine wpQuiet_nil ?_; rintro _ ⟨pq, rfl⟩
                  have hB16 := Bq pq.d pq.os
                  generalize Go.Sort.grow (redrawn w15 pq.d) pq.os = w16 at *
                  have HH16 := Lib.hid (HH15.out.below hB16)
                  have HRow16 : Hid (w16.ownsRow w.heap.size 37 4 (.slice va WL.length vc) WL.length (itvs (WL.map Vv.x))) := Lib.hid (by have h := HH16.out.2.1; rw [List.length_map] at h; exact h)
                  have i0 := cell_next s0 _ hB16
                  have i1 := cell_next s1 _ hB16
                  have i2 := cell_next s2 _ hB16
                  have i3 := cell_next s3 _ hB16
                  have j0 := P0 _ hB16
                  have j1 := P1 _ hB16
                  have j2 := P2 _ hB16
                  have hz16 : tq < w16.heap.size := World.block_lt_of_cell? _ _ i0
                  have hz17 : tp < w16.heap.size := World.block_lt_of_cell? _ _ j0
                  have hzw := HH16.out.2.2.2.2.2.size
                  have hWm := HX13.out.2.2.2.2.2.2.2.2.1
                  have hWl : WL.length ≤ 140737488355328 := by omega
                  have HZ : Hid (∀ v' w', w'.ownsRow w.heap.size 37 4 v' (WL.length + 1) (itvs (WL.map Vv.x) ++ [.string xu, .int .i64 xs, .int .i64 xk, .string xv]) → App w16 w' (.slice va WL.length vc) v' → (∃ a c, v' = .slice a (WL.length + 1) c) ∧ BkH w w' q p v' (.slice pa WL.length pc) D' Fp (List.range (M ++ [R]).length) (WL.map Vv.x ++ [⟨xu, xs, xk, xv⟩]) WL ∧ w'.cell? ⟨tp, 0, none⟩ = some (.int .i64 (ml : Nat)) ∧ w'.cell? ⟨tp, 1, none⟩ = some (.int .i64 (a0 : Nat)) ∧ w'.cell? ⟨tp, 2, none⟩ = some (.int .i64 ((n9 : Nat) : Int))) := Lib.hid fun v' w' h1 h2 => by
                    obtain ⟨a', c', hv, _⟩ := row_shape h1
                    have hc := Chg.of_app h2
                    have hno : ¬ ((Value.slice va WL.length vc).ownBlock = some tp) := fun e => HIne.out _ e rfl
                    exact ⟨⟨a', c', hv⟩, HH16.out.app1 (by rw [List.length_map]; exact h1) h2, cell_chgv j0 hc hno, cell_chgv j1 hc hno, cell_chgv j2 hc hno⟩
                  obtain ⟨i0', hi, hz0, hz1, hz2⟩ := info_parts infoIt
                  obtain ⟨k0', ki, kz0, kz1, kz2⟩ := info_parts infoPt
                  clear s0 s1 s2 s3 p0 p1 p2 P0 P1 P2 Bq hB16 HPt HH15 hd HCase
                  go_upto_region 33 with (at_builtin; go_loud (refine wpList_appN rfl (.tmp 153) (.tmp 155) 22 37 i0' (.agg #[.string ⟨#[]⟩, .int .i64 0, .int .i64 0, .string ⟨#[]⟩]) 4 48 Tryd.underlying22 hi hz0 hz1 hz2 rfl (by decide) rfl w.heap.size _ WL.length (itvs (WL.map Vv.x)) rfl HRow16.out #[.string xu, .int .i64 xs, .int .i64 xk, .string xv] 1 1 (by first | rfl | (simp; done) | (simp; rfl)) rfl (by simp [Value.oneCell']) (by unfold maxLen; omega) (by omega) hzw ?_); intro v17 w17 ho17 _ ha17; have hz17 := HZ.out _ _ ho17 ha17; obtain ⟨⟨a17, c17, rfl⟩, hx17, r0, r1, r2'⟩ := hz17; have HX17 := Lib.hid hx17; clear ho17 ha17 hx17)
                  have HRow17 := Lib.hid HX17.out.2.2.1
                  have hzw2 := HX17.out.2.2.2.2.2.size
                  have HK3 : Hid (∀ v' w', w'.ownsRow w.heap.size 25 3 v' (WL.length + 1) (pvs WL ++ [.int .i64 (ml : Nat), .int .i64 (a0 : Nat), .int .i64 (n9 : Nat)]) → App w17 w' (.slice pa WL.length pc) v' → (∃ a c, v' = .slice a (WL.length + 1) c) ∧ BkI w w' q p (m + 1) (.slice a17 (WL.length + 1) c17) v' D' Fp (M ++ [R ++ [recB xu xs xk xv]]) (WL ++ [⟨⟨xu, xs, xk, xv⟩, (ml : Nat), (a0 : Nat), (n9 : Nat)⟩])) := Lib.hid fun v' w' h1 h2 => by
                    obtain ⟨a', c', hv, _⟩ := row_shape h1
                    obtain ⟨g1, g2, g3, g4, g5, g6⟩ := HX17.out.app2 (x := ⟨⟨xu, xs, xk, xv⟩, (ml : Nat), (a0 : Nat), (n9 : Nat)⟩) h1 h2
                    have e1 : WL.map Vv.x ++ [⟨xu, xs, xk, xv⟩] = (WL ++ [(⟨⟨xu, xs, xk, xv⟩, (ml : Nat), (a0 : Nat), (n9 : Nat)⟩ : Vv)]).map Vv.x := by rw [List.map_append]; rfl
                    have e2 : List.range (M ++ [R]).length = List.range (M ++ [R ++ [recB xu xs xk xv]]).length := by simp
                    have e3 := vpre_put M R (x := ⟨xu, xs, xk, xv⟩) HR.out (by simp only; omega)
                    have e4 : vpre (M ++ [R]) (M.length + 1) = WL := by have := HX13.out.2.2.2.1; rw [List.length_append] at this; exact this
                    rw [e1] at g2
                    rw [e2] at g1
                    rw [List.length_map] at g2
                    refine ⟨⟨a', c', hv⟩, HCB.out, hdd, g1, ?_, g2, g3, g4, g5, by rw [List.length_append, List.length_singleton]; omega, fun y hy => ?_, g6⟩
                    · rw [List.length_append, List.length_singleton, e3, e4, HMl0.out, HA0.out, HRn.out]
                    · rcases List.mem_append.1 hy with hy | hy
                      · exact HX13.out.2.2.2.2.2.2.2.2.2.1 y hy
                      · rw [List.mem_singleton] at hy
                        rw [hy]
                        exact hxv
                  clear hpl hpa
                  go_wp2_with (at_builtin; go_loud (refine wpList_appN rfl (.tmp 157) (.tmp 159) 71 25 k0' (.agg #[.int .i64 0, .int .i64 0, .int .i64 0]) 3 24 Tryd.underlying71 ki kz0 kz1 kz2 rfl (by decide) rfl w.heap.size _ WL.length (pvs WL) rfl HRow17.out #[.int .i64 (ml : Nat), .int .i64 (a0 : Nat), .int .i64 (n9 : Nat)] 1 1 (by first | rfl | (simp; done) | (simp; rfl)) rfl (by simp [Value.oneCell']) (by unfold maxLen; omega) (by omega) hzw2 ?_); intro v18 w18 ho18 _ ha18; have hz18 := HK3.out _ _ ho18 ha18; obtain ⟨⟨a18, c18, rfl⟩, hx18⟩ := hz18; have HX18 := Lib.hid hx18; clear ho18 ha18 hx18)
                  go_roundw
                  case rel => exact ⟨m + 1, nn, D', Fp, M ++ [R ++ [recB xu xs xk xv]], WL ++ [⟨⟨xu, xs, xk, xv⟩, (ml : Nat), (a0 : Nat), (n9 : Nat)⟩], by omega, by go_num, by first | rfl | go_num, by rw [List.length_append, HMl.out]; rfl, by rw [List.length_append] at *; exact HX18.out⟩
                  case measure => simp [intOf]; omega
              · skip
                obtain ⟨Fb, hFbe⟩ : ∃ Fb, Fb = F := ⟨_, rfl⟩
                have hFb : ∀ k, Fb k → k ≠ tq := fun k hf => by rw [hFbe] at hf; have := HFz.out k hf; omega
                have HXb : Hid (BkI w w11 q p m (.slice va WL.length vc) (.slice pa WL.length pc) D Fb L WL) := Lib.hid (by rw [hFbe]; exact HX11.out)
                obtain ⟨M, R, hMR⟩ : ∃ M R, L = M ++ [R] := by
                  rcases List.eq_nil_or_concat L with h0 | ⟨M, R, h0⟩
                  · exfalso
                    have h5 := HR0.out h0; omega
                  · exact ⟨M, R, by rw [h0, List.concat_eq_append]⟩
                have hMl : nn = M.length + 1 := by rw [HNN.out, hMR, List.length_append]; rfl
                have t0 := z0
                have t1 := z1
                have t2 := z2
                have t3 := z3
                clear hFbe z0 z1 z2 z3
                rw [hMR] at HXb
                have HFb := Lib.hid hFb
                have HMl := Lib.hid hMl
                have HMR := Lib.hid hMR
                clear hFb hMl hMR
                obtain ⟨r2, hr20, hr21, hr22⟩ := HXb.out.room
                have hr2 := hr21 M R rfl
                have HR2 := Lib.hid hr2
                have HRm2 := Lib.hid hr22
                have T0 := Lib.hid (cell_next t0)
                have T1 := Lib.hid (cell_next t1)
                have T2 := Lib.hid (cell_next t2)
                have T3 := Lib.hid (cell_next t3)
                clear hr20 hr21 hr22 hr2 t0 t1 t2 t3
                go_wp2_with fail; (with_reducible refine (HRm2.out).mono ?_); rintro e w13 ⟨rfl, hb13⟩
                have HX13 := Lib.hid (HXb.out.below hb13 (Nat.le_refl _))
                have t0 := T0.out _ hb13
                have t1 := T1.out _ hb13
                have t2 := T2.out _ hb13
                have t3 := T3.out _ hb13
                have hdq := HX13.out.2.1
                obtain ⟨D', zz, aa, nv, er, hdn', hcase, hput⟩ := HX13.out.1.put HX13.out.2.2.1 (HT.out.below HX13.out.2.2.2.2.2.2.2.2.2.2) (v := xv) HR.out hxv (by omega)
                rw [HFn.out, HRn.out, ← HR2.out] at hcase
                have HPut := Lib.hid hput
                have HCase := Lib.hid hcase
                clear hput hcase hb13 T0 T1 T2 T3 HXb HRm2
                go_wp2_with fail; (with_reducible refine (HPut.out).mono ?_); rintro e w14 ⟨rfl, ho14⟩
                obtain ⟨Fp, g1, g2, g3, g4, g5, g6, g7⟩ := HX13.out.turn _ ho14
                have u0 := cell_chgv (F := Fb) t0 ho14.2 (fun hf => HFb.out _ hf rfl)
                have u1 := cell_chgv (F := Fb) t1 ho14.2 (fun hf => HFb.out _ hf rfl)
                have u2 := cell_chgv (F := Fb) t2 ho14.2 (fun hf => HFb.out _ hf rfl)
                have u3 := cell_chgv (F := Fb) t3 ho14.2 (fun hf => HFb.out _ hf rfl)
                have hbp := (Below.refl w14.heap.size w14).alloc (Nat.le_refl _) (.cells #[.int .i64 zz, .int .i64 aa, .int .i64 nv] 25)
                obtain ⟨p0, p1, p2⟩ := cells3n (w := w14) (a := .int .i64 zz) (b := .int .i64 aa) (c := .int .i64 nv) (T := 25)
                have hH14 : BkH w w14 q p (.slice va WL.length vc) (.slice pa WL.length pc) D' Fp (List.range (M ++ [R]).length) (WL.map Vv.x) WL := ⟨g1, by rw [List.length_map]; exact g2, g3, g4, g5, g7⟩
                have HH15 := Lib.hid (hH14.below hbp)
                have HIne : Hid (∀ k, (Value.slice va WL.length vc).ownBlock = some k → k ≠ w14.heap.size) := Lib.hid fun k hk e => by have := (World.ownsRow.lt g2 k hk).2; omega
                have s0 := cell_next u0 _ hbp
                have s1 := cell_next u1 _ hbp
                have s2 := cell_next u2 _ hbp
                have s3 := cell_next u3 _ hbp
                have htz : w14.heap.size < (w14.alloc (.cells #[.int .i64 zz, .int .i64 aa, .int .i64 nv] 25)).heap.size := by simp
                have htz2 : tq < (w14.alloc (.cells #[.int .i64 zz, .int .i64 aa, .int .i64 nv] 25)).heap.size := World.block_lt_of_cell? _ _ s0
                have HIne2 : Hid (∀ k, (Value.slice va WL.length vc).ownBlock = some k → k ≠ tq) := Lib.hid fun k hk e => by have := HTq.out k hk; omega
                clear t0 t1 t2 t3 u0 u1 u2 u3 ho14 hbp g1 g2 g3 g4 g5 g6 g7 hH14 HPut
                go_upto_region 27 with (fail)
                generalize w14.alloc (.cells #[.int .i64 zz, .int .i64 aa, .int .i64 nv] 25) = w15 at *
                obtain ⟨tp, htp⟩ : ∃ tp, w14.heap.size = tp := ⟨_, rfl⟩
                rw [htp] at p0 p1 p2 htz HIne ⊢
                clear htp
                rcases HCase.out with ⟨her, hle, hzz, haa, hnv, hcb, hpt, h400⟩ | ⟨her, hlt2, hzz, haa, hnv, hDD⟩
                rotate_left
                · subst hzz haa hnv
                  have hq1 : (er == 0) = false := by rw [beq_eq_false_iff_ne]; exact her
                  have hq2 : (er != 0) = true := by rw [bne_iff_ne]; exact her
                  have hq3 : decide ((fn : Int) ≤ r2) = false := decide_eq_false (by omega)
                  have hnp : (binOp .neq 25 (.agg #[.int .i64 0, .int .i64 0, .int .i64 0]) (.agg #[.int .i64 0, .int .i64 0, .int .i64 0])).run Tryd.prog w15 = .ok (.bool false) w15 := by rw [nePtr]; rfl
                  have HX : Hid (BkI w w15 q p (m + 1) (.slice va WL.length vc) (.slice pa WL.length pc) D Fp (M ++ [R]) WL) := Lib.hid (by
                    obtain ⟨g1, g2, g3, g4, g5, g6⟩ := HH15.out
                    rw [hDD] at g1
                    rw [List.length_map] at g2
                    exact ⟨HX13.out.1, by omega, g1, HX13.out.2.2.2.1, g2, g3, g4, g5, by have := HX13.out.2.2.2.2.2.2.2.2.1; omega, HX13.out.2.2.2.2.2.2.2.2.2.1, g6⟩)
                  clear her hlt2 hDD hdn' HCase HX13 HH15 s0 s1 s2 s3 HIne HIne2 hg1
                  go_wp2
                  go_roundw
                  case rel => exact ⟨m + 1, nn, D, Fp, M ++ [R], WL, by omega, by go_num, by first | rfl | go_num, by rw [List.length_append, HMl.out]; rfl, HX.out⟩
                  case measure => simp [intOf]; omega
                · subst her
                  obtain ⟨ml, hml⟩ : ∃ ml, M.length = ml := ⟨_, rfl⟩
                  obtain ⟨a0, ha0⟩ : ∃ a0, (flR R).length = a0 := ⟨_, rfl⟩
                  obtain ⟨pn, hpn⟩ : ∃ pn, a0 + fn = pn := ⟨_, rfl⟩
                  rw [hml] at hzz hpt
                  rw [ha0] at haa hpt h400
                  rw [hpn] at hpt h400
                  subst hzz haa hnv
                  have hnb1 : nn = ml + 1 := by rw [HMl.out, hml]
                  have hd : decide ((fn : Int) ≤ r2) = true := decide_eq_true hle
                  have hpl : (((ml : Nat) : Int) != ((nn : Nat) : Int) - 1) = false := by rw [bne_eq_false_iff_eq]; omega
                  have hpa : (((a0 : Nat) : Int) != ((pn : Nat) : Int) - ((fn : Nat) : Int)) = false := by rw [bne_eq_false_iff_eq]; omega
                  have hpf : fn ≤ pn := by omega
                  have hnb2 : 1 ≤ nn := by omega
                  have hnb3 : nn ≤ 65 := by
                    have h1 := hcb.len
                    rw [List.length_append, hml, List.length_singleton] at h1
                    omega
                  have HNb1 := Lib.hid hnb1
                  have HMl0 := Lib.hid hml
                  have HA0 := Lib.hid ha0
                  have HCB := Lib.hid hcb
                  have HPt : Hid (∀ W, Below w15.heap.size w15 W → Calls Tryd.prog 24 #[.pointer (some ⟨p, 0, none⟩), .int .i64 (ml : Nat)] W fun e w' => e = .returned (.int .i64 (pn : Nat)) ∧ Below W.heap.size W w') := Lib.hid fun W hW => by
                    have h1 := (HH15.out.1.below hW).pointer (ml : Nat)
                    rw [hpt] at h1
                    exact h1.mono fun e w' ⟨a, b⟩ => ⟨a, by rw [← b]; exact Below.refl _ _⟩
                  have hdd : D'.done ≤ m + 1 := by omega
                  have Bq := bnext_grow (Below.refl w15.heap.size w15)
                  have P0 := cell_next p0
                  have P1 := cell_next p1
                  have P2 := cell_next p2
                  clear hnb1 hml ha0 hpn hpt hcb hle hdn' hg1
                  go_upto_region 30 with (fail)
                  refine wp_region_quiet_below (by kernel_rfl) (by kernel_rfl) ?_; (repeat (go_big_quiet_step ((go_at_call 24; (with_reducible refine Calls.regrown_of (HPt.out _ (Bq _ _))))))); refine wpQuiet_nil ?_; rintro _ ⟨pq, rfl⟩
                  have hB16 := Bq pq.d pq.os
                  generalize Go.Sort.grow (redrawn w15 pq.d) pq.os = w16 at *
                  have HH16 := Lib.hid (HH15.out.below hB16)
                  have HRow16 : Hid (w16.ownsRow w.heap.size 37 4 (.slice va WL.length vc) WL.length (itvs (WL.map Vv.x))) := Lib.hid (by have h := HH16.out.2.1; rw [List.length_map] at h; exact h)
                  have i0 := cell_next s0 _ hB16
                  have i1 := cell_next s1 _ hB16
                  have i2 := cell_next s2 _ hB16
                  have i3 := cell_next s3 _ hB16
                  have j0 := P0 _ hB16
                  have j1 := P1 _ hB16
                  have j2 := P2 _ hB16
                  have hz16 : tq < w16.heap.size := World.block_lt_of_cell? _ _ i0
                  have hz17 : tp < w16.heap.size := World.block_lt_of_cell? _ _ j0
                  have hzw := HH16.out.2.2.2.2.2.size
                  have hWm := HX13.out.2.2.2.2.2.2.2.2.1
                  have hWl : WL.length ≤ 140737488355328 := by omega
                  have HZ : Hid (∀ v' w', w'.ownsRow w.heap.size 37 4 v' (WL.length + 1) (itvs (WL.map Vv.x) ++ [.string xu, .int .i64 xs, .int .i64 xk, .string xv]) → App w16 w' (.slice va WL.length vc) v' → (∃ a c, v' = .slice a (WL.length + 1) c) ∧ BkH w w' q p v' (.slice pa WL.length pc) D' Fp (List.range (M ++ [R]).length) (WL.map Vv.x ++ [⟨xu, xs, xk, xv⟩]) WL ∧ w'.cell? ⟨tp, 0, none⟩ = some (.int .i64 (ml : Nat)) ∧ w'.cell? ⟨tp, 1, none⟩ = some (.int .i64 (a0 : Nat)) ∧ w'.cell? ⟨tp, 2, none⟩ = some (.int .i64 ((n9 : Nat) : Int))) := Lib.hid fun v' w' h1 h2 => by
                    obtain ⟨a', c', hv, _⟩ := row_shape h1
                    have hc := Chg.of_app h2
                    have hno : ¬ ((Value.slice va WL.length vc).ownBlock = some tp) := fun e => HIne.out _ e rfl
                    exact ⟨⟨a', c', hv⟩, HH16.out.app1 (by rw [List.length_map]; exact h1) h2, cell_chgv j0 hc hno, cell_chgv j1 hc hno, cell_chgv j2 hc hno⟩
                  obtain ⟨i0', hi, hz0, hz1, hz2⟩ := info_parts infoIt
                  obtain ⟨k0', ki, kz0, kz1, kz2⟩ := info_parts infoPt
                  clear s0 s1 s2 s3 p0 p1 p2 P0 P1 P2 Bq hB16 HPt HH15 hd HCase
                  go_upto_region 33 with (at_builtin; go_loud (refine wpList_appN rfl (.tmp 153) (.tmp 155) 22 37 i0' (.agg #[.string ⟨#[]⟩, .int .i64 0, .int .i64 0, .string ⟨#[]⟩]) 4 48 Tryd.underlying22 hi hz0 hz1 hz2 rfl (by decide) rfl w.heap.size _ WL.length (itvs (WL.map Vv.x)) rfl HRow16.out #[.string xu, .int .i64 xs, .int .i64 xk, .string xv] 1 1 (by first | rfl | (simp; done) | (simp; rfl)) rfl (by simp [Value.oneCell']) (by unfold maxLen; omega) (by omega) hzw ?_); intro v17 w17 ho17 _ ha17; have hz17 := HZ.out _ _ ho17 ha17; obtain ⟨⟨a17, c17, rfl⟩, hx17, r0, r1, r2'⟩ := hz17; have HX17 := Lib.hid hx17; clear ho17 ha17 hx17)
                  have HRow17 := Lib.hid HX17.out.2.2.1
                  have hzw2 := HX17.out.2.2.2.2.2.size
                  have HK3 : Hid (∀ v' w', w'.ownsRow w.heap.size 25 3 v' (WL.length + 1) (pvs WL ++ [.int .i64 (ml : Nat), .int .i64 (a0 : Nat), .int .i64 (n9 : Nat)]) → App w17 w' (.slice pa WL.length pc) v' → (∃ a c, v' = .slice a (WL.length + 1) c) ∧ BkI w w' q p (m + 1) (.slice a17 (WL.length + 1) c17) v' D' Fp (M ++ [R ++ [recB xu xs xk xv]]) (WL ++ [⟨⟨xu, xs, xk, xv⟩, (ml : Nat), (a0 : Nat), (n9 : Nat)⟩])) := Lib.hid fun v' w' h1 h2 => by
                    obtain ⟨a', c', hv, _⟩ := row_shape h1
                    obtain ⟨g1, g2, g3, g4, g5, g6⟩ := HX17.out.app2 (x := ⟨⟨xu, xs, xk, xv⟩, (ml : Nat), (a0 : Nat), (n9 : Nat)⟩) h1 h2
                    have e1 : WL.map Vv.x ++ [⟨xu, xs, xk, xv⟩] = (WL ++ [(⟨⟨xu, xs, xk, xv⟩, (ml : Nat), (a0 : Nat), (n9 : Nat)⟩ : Vv)]).map Vv.x := by rw [List.map_append]; rfl
                    have e2 : List.range (M ++ [R]).length = List.range (M ++ [R ++ [recB xu xs xk xv]]).length := by simp
                    have e3 := vpre_put M R (x := ⟨xu, xs, xk, xv⟩) HR.out (by simp only; omega)
                    have e4 : vpre (M ++ [R]) (M.length + 1) = WL := by have := HX13.out.2.2.2.1; rw [List.length_append] at this; exact this
                    rw [e1] at g2
                    rw [e2] at g1
                    rw [List.length_map] at g2
                    refine ⟨⟨a', c', hv⟩, HCB.out, hdd, g1, ?_, g2, g3, g4, g5, by rw [List.length_append, List.length_singleton]; omega, fun y hy => ?_, g6⟩
                    · rw [List.length_append, List.length_singleton, e3, e4, HMl0.out, HA0.out, HRn.out]
                    · rcases List.mem_append.1 hy with hy | hy
                      · exact HX13.out.2.2.2.2.2.2.2.2.2.1 y hy
                      · rw [List.mem_singleton] at hy
                        rw [hy]
                        exact hxv
                  clear hpl hpa
                  go_wp2_with (at_builtin; go_loud (refine wpList_appN rfl (.tmp 157) (.tmp 159) 71 25 k0' (.agg #[.int .i64 0, .int .i64 0, .int .i64 0]) 3 24 Tryd.underlying71 ki kz0 kz1 kz2 rfl (by decide) rfl w.heap.size _ WL.length (pvs WL) rfl HRow17.out #[.int .i64 (ml : Nat), .int .i64 (a0 : Nat), .int .i64 (n9 : Nat)] 1 1 (by first | rfl | (simp; done) | (simp; rfl)) rfl (by simp [Value.oneCell']) (by unfold maxLen; omega) (by omega) hzw2 ?_); intro v18 w18 ho18 _ ha18; have hz18 := HK3.out _ _ ho18 ha18; obtain ⟨⟨a18, c18, rfl⟩, hx18⟩ := hz18; have HX18 := Lib.hid hx18; clear ho18 ha18 hx18)
                  go_roundw
                  case rel => exact ⟨m + 1, nn, D', Fp, M ++ [R ++ [recB xu xs xk xv]], WL ++ [⟨⟨xu, xs, xk, xv⟩, (ml : Nat), (a0 : Nat), (n9 : Nat)⟩], by omega, by go_num, by first | rfl | go_num, by rw [List.length_append, HMl.out]; rfl, by rw [List.length_append] at *; exact HX18.out⟩
                  case measure => simp [intOf]; omega
            exact AllReadyH.nil
          exact AllReadyH.nil
      · obtain rfl : m = l.length := by omega
        generalize hwL : wr = wL at *
        clear hwL hlt hm hn4 HNN HFz
        have HBr := Lib.hid hbr
        have hW40 : WL.length ≤ 40 := by have := HBk.out.2.2.2.2.2.2.2.2.1; omega
        clear hbr
        go_wp2
        go_loopw [17, 162] (fun v i wr => ∃ k : Nat, k ≤ 4 ∧ i = .int .i64 k ∧ wr.ownsRow wL.heap.size 69 7 v (vpre L k).length (vvs (vpre L k)) ∧ Below wL.heap.size wL wr) (fun _ i _ => 4 - (intOf i).toNat)
        case atStart => exact ⟨0, Nat.zero_le _, rfl, by rw [vpre_zero]; exact World.ownsRow_nil _ _ _ _, Below.refl _ _⟩
        case round =>
          obtain ⟨k, hk, rfl, hrow, hbr⟩ := hrel
          have HRow := Lib.hid hrow
          have HB := Lib.hid hbr
          obtain ⟨ua, uc, rfl, huc, _⟩ := row_shape hrow
          clear hrow
          by_cases hlt : k < 4
          · have hz := HBk.out.1.zone HBk.out.2.2.1.ok k hlt
            have HLs := Lib.hid ((HBk.out.2.2.1.below hbr).list (HT.out.below (HBr.out.trans (hbr.mono HBr.out.size))) (k : Nat) _ _ hz.1 hz.2.1 (by have := hz.2.2; omega))
            have hle := vpre_le HBk.out.1.len hk
            have hle2 := vpre_le HBk.out.1.len (show k + 1 ≤ 4 from hlt)
            rw [HBk.out.2.2.2.1] at hle hle2
            rw [vpre_succ, List.length_append] at hle2
            clear hz hbr
            obtain ⟨P, hP⟩ : ∃ P, vlist (k : Int) 0 (L.getD k []) = P := ⟨_, rfl⟩
            rw [hP] at HLs hle2
            have HP := Lib.hid hP
            obtain ⟨V, hV⟩ : ∃ V, vpre L k = V := ⟨_, rfl⟩
            rw [hV] at HRow huc hle hle2 ⊢
            have HV := Lib.hid hV
            clear hP hV
            go_wp2_with fail; (with_reducible refine (HLs.out).mono ?_); rintro e w5 ⟨u5, rfl, hrow5, hb5⟩
            obtain ⟨a5, c5, rfl, hc5, _⟩ := row_shape hrow5
            have HRow5 := Lib.hid hrow5
            have HOwn5 := Lib.hid (row_past HRow.out hb5 (Nat.le_refl _))
            have HB5 := Lib.hid (HB.out.trans (hb5.mono HB.out.size))
            have hz5 := HB5.out.size
            have hp40 : V.length + P.length ≤ 1000000000 := by omega
            have HZ : Hid (∀ v' w', w'.ownsRow wL.heap.size 69 7 v' (V.length + P.length) (vvs V ++ vvs P) → App w5 w' (.slice ua V.length uc) v' → (∃ a c, v' = .slice a (V.length + P.length) c) ∧ w'.ownsRow wL.heap.size 69 7 v' (vpre L (k + 1)).length (vvs (vpre L (k + 1))) ∧ Below wL.heap.size wL w') := Lib.hid fun v' w' h1 h2 => by
              obtain ⟨a', c', hv, _⟩ := row_shape h1
              refine ⟨⟨a', c', hv⟩, ?_, HB5.out.trans ((Chg.of_app h2).below (fun k hk => (World.ownsRow.lt HOwn5.out k hk).1) hz5)⟩
              rw [vpre_succ, HV.out, HP.out, vvs_append, List.length_append]
              exact h1
            clear hrow5 hb5 HLs hle hle2
            go_wp2_with (at_builtin; go_loud (refine wpList_appV rfl (.tmp 173) (.tmp 174) rfl wL.heap.size _ V.length (vvs V) rfl HOwn5.out _ _ P rfl HRow5.out hp40 hz5 ?_); intro v7 w7 ho7 ha7; have hz7 := HZ.out _ _ ho7 ha7; obtain ⟨⟨a7, c7, rfl⟩, hr7, hb7⟩ := hz7; have HR7 := Lib.hid hr7; have HB7 := Lib.hid hb7; clear ho7 ha7 hr7 hb7)
            go_roundw
            case rel => exact ⟨k + 1, by omega, by go_num, HR7.out, HB7.out⟩
            case measure => simp [intOf]; omega
          · have hk4 : k = 4 := by omega
            have hv4 : vpre L k = WL := by rw [hk4]; exact (vpre_four HBk.out.1.len).trans HBk.out.2.2.2.1
            have hd4 : decide ((k : Int) < 4) = false := decide_eq_false (by omega)
            rw [hv4] at huc ⊢
            have HRow4 : Hid (wr.ownsRow wL.heap.size 69 7 (.slice ua WL.length uc) WL.length (vvs WL)) := Lib.hid (by have := HRow.out; rw [hv4] at this; exact this)
            clear hv4 hlt hk HRow hk4
            generalize hw4 : wr = w4 at *
            clear hw4 hbr
            have HIt : Hid (wL.ownsRow w.heap.size 37 4 (.slice va (WL.map Vv.x).length vc) (WL.map Vv.x).length (itvs (WL.map Vv.x))) := Lib.hid (by have := HBk.out.2.2.2.2.1; rw [List.length_map]; exact this)
            have HPt := Lib.hid HBk.out.2.2.2.2.2.1
            go_wp2
            go_loopw [184] (fun i wr => ∃ j : Nat, j ≤ WL.length ∧ i = .int .i64 j ∧ Below w4.heap.size w4 wr) (fun i _ => WL.length - (intOf i).toNat)
            case atStart => exact ⟨0, Nat.zero_le _, rfl, Below.refl _ _⟩
            case round =>
              obtain ⟨j, hj, rfl, hbr⟩ := hrel
              have HB4 := Lib.hid hbr
              have hbL : Below wL.heap.size wL wr := HB.out.trans (hbr.mono HB.out.size)
              have HBL := Lib.hid hbL
              by_cases hlt : j < WL.length
              · obtain ⟨g1, rfl, i0, i1, i2, i3⟩ := irow_at HIt.out hbL j (by rw [List.length_map]; exact hlt)
                obtain ⟨g2, rfl, j0, j1, j2, j3, j4, j5, j6⟩ := vrow_at HRow4.out hbr j hlt
                obtain ⟨g3, rfl, k0, k1, k2⟩ := prow_at HPt.out hbL j hlt
                rw [List.getElem_map] at i0 i1 i2 i3
                have hmem : WL[j] ∈ WL := List.getElem_mem hlt
                generalize WL[j] = y at *
                have hv5 := HBk.out.2.2.2.2.2.2.2.2.2.1 y hmem
                rw [← HBk.out.2.2.2.1] at hmem
                have hfd := HBk.out.1.found HBk.out.2.2.1.ok hmem
                obtain ⟨⟨yu, ys, yk, yv⟩, yz, ya, yn⟩ := y
                simp only at i0 i1 i2 i3 j0 j1 j2 j3 j4 j5 j6 k0 k1 k2 hfd hv5
                obtain ⟨hf1, hf2, hf3⟩ := hfd
                have HGt : Hid (∀ W, Below wr.heap.size wr W → Calls Tryd.prog 15 #[.pointer (some ⟨q, 0, none⟩), .agg #[.int .i64 yz, .int .i64 ya, .int .i64 yn], .agg #[.string yu, .int .i64 ys, .int .i64 yk]] W fun e w' => e = .returned (.tuple #[.string yv, .int .i64 0]) ∧ Below W.heap.size W w') := Lib.hid fun W hW => by
                  have hbW := hbL.trans (hW.mono hbL.size)
                  refine ((HBk.out.2.2.1.below hbW).get (HT.out.below (HBr.out.trans (hbW.mono HBr.out.size))) yz ya yn yu ys yk).mono fun e w' ⟨v, er, he, hg, hb⟩ => ⟨?_, hb⟩
                  obtain ⟨rfl, rfl⟩ := hg.found hf2 hf3 hf1 (by omega)
                  exact he
                have HGo : Hid (∀ W, Below wr.heap.size wr W → Calls Tryd.prog 15 #[.pointer (some ⟨q, 0, none⟩), .agg #[.int .i64 yz, .int .i64 ya, .int .i64 yn], .agg #[.string yu, .int .i64 (ys + 1), .int .i64 yk]] W fun e w' => (∃ v, e = .returned (.tuple #[.string v, .int .i64 140])) ∧ Below W.heap.size W w') := Lib.hid fun W hW => by
                  have hbW := hbL.trans (hW.mono hbL.size)
                  refine ((HBk.out.2.2.1.below hbW).get (HT.out.below (HBr.out.trans (hbW.mono HBr.out.size))) yz ya yn yu (ys + 1) yk).mono fun e w' ⟨v, er, he, hg, hb⟩ => ⟨⟨v, ?_⟩, hb⟩
                  rw [hg.other hf2 hf3 hf1 (show yv.size ≤ 100000 by omega)] at he
                  exact he
                have hs2 : 0 ≤ ys ∧ ys ≤ 1099511627776 := by have h : _ ∧ _ := of_decide_eq_true hf1; exact ⟨h.2.2.1, h.2.2.2.1⟩
                obtain ⟨hs0, hs1⟩ := hs2
                have hbx := (Below.refl wr.heap.size wr).alloc (Nat.le_refl _) (.cells #[.string yu, .int .i64 ys, .int .i64 yk, .string yv] 37)
                obtain ⟨y0, y1, y2, y3⟩ := cells4n (w := wr) (a := .string yu) (b := .int .i64 ys) (c := .int .i64 yk) (d := .string yv) (T := 37)
                have nj0 := cell_next j0 _ hbx
                have nj1 := cell_next j1 _ hbx
                have nj2 := cell_next j2 _ hbx
                have nj3 := cell_next j3 _ hbx
                have nj4 := cell_next j4 _ hbx
                have nj5 := cell_next j5 _ hbx
                have nj6 := cell_next j6 _ hbx
                have nk0 := cell_next k0 _ hbx
                have nk1 := cell_next k1 _ hbx
                have nk2 := cell_next k2 _ hbx
                have HBx := Lib.hid hbx
                go_upto_region 49 with (fail)
                clear i0 i1 i2 i3 j0 j1 j2 j3 j4 j5 j6 k0 k1 k2 hbx hbr hbL hf1 hf2 hf3 hmem hv5
                generalize wr.alloc (.cells #[.string yu, .int .i64 ys, .int .i64 yk, .string yv] 37) = w9 at *
                obtain ⟨tq, htq⟩ : ∃ tq, wr.heap.size = tq := ⟨_, rfl⟩
                rw [htq] at y0 y1 y2 y3 ⊢
                clear htq
                have Cy0 := Lib.hid (cell_next y0)
                have Cy1 := Lib.hid (cell_next y1)
                have Cy2 := Lib.hid (cell_next y2)
                have Cy3 := Lib.hid (cell_next y3)
                have Cnj0 := Lib.hid (cell_next nj0)
                have Cnj1 := Lib.hid (cell_next nj1)
                have Cnj2 := Lib.hid (cell_next nj2)
                have Cnj3 := Lib.hid (cell_next nj3)
                have Cnj4 := Lib.hid (cell_next nj4)
                have Cnj5 := Lib.hid (cell_next nj5)
                have Cnj6 := Lib.hid (cell_next nj6)
                have Cnk0 := Lib.hid (cell_next nk0)
                have Cnk1 := Lib.hid (cell_next nk1)
                have Cnk2 := Lib.hid (cell_next nk2)
                have HG9 : Hid (∀ W, Below w9.heap.size w9 W → Calls Tryd.prog 15 #[.pointer (some ⟨q, 0, none⟩), .agg #[.int .i64 yz, .int .i64 ya, .int .i64 yn], .agg #[.string yu, .int .i64 ys, .int .i64 yk]] W fun e w' => e = .returned (.tuple #[.string yv, .int .i64 0]) ∧ Below W.heap.size W w') := Lib.hid fun W hW => HGt.out W (HBx.out.trans (hW.mono HBx.out.size))
                have HG9o : Hid (∀ W, Below w9.heap.size w9 W → Calls Tryd.prog 15 #[.pointer (some ⟨q, 0, none⟩), .agg #[.int .i64 yz, .int .i64 ya, .int .i64 yn], .agg #[.string yu, .int .i64 (ys + 1), .int .i64 yk]] W fun e w' => (∃ v, e = .returned (.tuple #[.string v, .int .i64 140])) ∧ Below W.heap.size W w') := Lib.hid fun W hW => HGo.out W (HBx.out.trans (hW.mono HBx.out.size))
                have HBd : Hid (Below w9.heap.size w9 w9.drew) := Lib.hid (Below.refl _ w9).drew
                have HB49 := Lib.hid (HB4.out.trans (HBx.out.mono HB4.out.size))
                clear HGt HGo
                refine wp_region_held_drew (S := fun w' => (w'.cell? ⟨tq, 0, none⟩ = some (.string yu) ∧ w'.cell? ⟨tq, 1, none⟩ = some (.int .i64 ys) ∧ w'.cell? ⟨tq, 2, none⟩ = some (.int .i64 yk)) ∧ w'.cell? ⟨g3, j * 3, none⟩ = some (.int .i64 yz) ∧ w'.cell? ⟨g3, j * 3 + 1, none⟩ = some (.int .i64 ya) ∧ w'.cell? ⟨g3, j * 3 + 2, none⟩ = some (.int .i64 yn)) (by kernel_rfl) ⟨⟨y0, y1, y2⟩, nk0, nk1, nk2⟩ (fun hHeld => ?_)
                refine wpAnyH_take (i := 0) (oi := ⟨some 190, _, _, _, _, _⟩) (v := ?_) rfl (by kernel_rfl) (by kernel_rfl) (by kernel_rfl) (fun _ _ _ h => h) (Or.inl ⟨by rfl, ?_⟩) (by assumption) ?_
                rotate_left
                · intro w hSw
                  (try dsimp only at hSw)
                  go_simp
                  (try with_reducible rfl)
                (try simp only [Act.put, List.setIfInBounds_toArray, List.set_cons_zero, List.set_cons_succ])
                refine wpAnyH_take (i := 1) (oi := ⟨some 191, _, _, _, _, _⟩) (v := ?_) rfl (by kernel_rfl) (by kernel_rfl) (by kernel_rfl) (fun _ _ _ h => h) (Or.inl ⟨by rfl, ?_⟩) (by assumption) ?_
                rotate_left
                · intro w hSw
                  (try dsimp only at hSw)
                  go_simp
                  (try with_reducible rfl)
                (try simp only [Act.put, List.setIfInBounds_toArray, List.set_cons_zero, List.set_cons_succ])
                refine wpAnyH_take (i := 2) (oi := ⟨some 192, _, _, _, _, _⟩) (v := ?_) rfl (by kernel_rfl) (by kernel_rfl) (by kernel_rfl) (fun _ _ _ h => h) (Or.inl ⟨by rfl, ?_⟩) (by assumption) ?_
                rotate_left
                · intro w hSw
                  (try dsimp only at hSw)
                  go_simp
                  (try with_reducible rfl)
                (try simp only [Act.put, List.setIfInBounds_toArray, List.set_cons_zero, List.set_cons_succ])
                refine wpAnyH_take (i := 3) (oi := ⟨some 193, _, _, _, _, _⟩) (v := ?_) rfl (by kernel_rfl) (by kernel_rfl) (by kernel_rfl) (fun _ _ _ h => h) (Or.inl ⟨by rfl, ?_⟩) (by assumption) ?_
                rotate_left
                · intro w hSw
                  (try dsimp only at hSw)
                  go_simp
                  (try with_reducible rfl)
                (try simp only [Act.put, List.setIfInBounds_toArray, List.set_cons_zero, List.set_cons_succ])
                refine wpAnyH_take (i := 4) (oi := ⟨some 194, _, _, _, _, _⟩) (v := ?_) rfl (by kernel_rfl) (by kernel_rfl) (by kernel_rfl) (fun _ _ _ h => h) (Or.inl ⟨by rfl, ?_⟩) (by assumption) ?_
                rotate_left
                · intro w hSw
                  (try dsimp only at hSw)
                  go_simp
                  (try with_reducible rfl)
                (try simp only [Act.put, List.setIfInBounds_toArray, List.set_cons_zero, List.set_cons_succ])
                refine wpAnyH_take (i := 5) (oi := ⟨some 195, _, _, _, _, _⟩) (v := ?_) rfl (by kernel_rfl) (by kernel_rfl) (by kernel_rfl) (fun _ _ _ h => h) (Or.inl ⟨by rfl, ?_⟩) (by assumption) ?_
                rotate_left
                · intro w hSw
                  (try dsimp only at hSw)
                  go_simp
                  (try with_reducible rfl)
                (try simp only [Act.put, List.setIfInBounds_toArray, List.set_cons_zero, List.set_cons_succ])
                refine wpAnyH_take (i := 6) (oi := ⟨some 196, _, _, _, _, _⟩) (v := ?_) rfl (by kernel_rfl) (by kernel_rfl) (by kernel_rfl) (fun _ _ _ h => h) (Or.inl ⟨by rfl, ?_⟩) (by assumption) ?_
                rotate_left
                · intro w hSw
                  (try dsimp only at hSw)
                  go_simp
                  (try with_reducible rfl)
                (try simp only [Act.put, List.setIfInBounds_toArray, List.set_cons_zero, List.set_cons_succ])
                refine wpAnyH_ready (rs := [7]) (by kernel_rfl) (by simp) ?_
                refine AllReadyH.cons (o := ⟨some 197, _, _, _, _, _⟩) rfl (fun K hK => ?_) ?_
                · go_simp
                  (with_reducible refine (HG9.out _ HBd.out).mono ?_)
                  rintro e w10 ⟨rfl, hb10⟩
                  have hb910 := HBd.out.trans (hb10.mono HBd.out.size)
                  have hq := And.intro (And.intro (Cy0.out _ hb910) (And.intro (Cy1.out _ hb910) (Cy2.out _ hb910))) (And.intro (Cnk0.out _ hb910) (And.intro (Cnk1.out _ hb910) (Cnk2.out _ hb910)))
                  have HB910 := Lib.hid hb910
                  clear hb10 hb910 HG9 y0 y1 y2 y3 nj0 nj1 nj2 nj3 nj4 nj5 nj6 nk0 nk1 nk2
                  go_wp2_with fail
                  refine hK.out _ _ ?_ (fun hHeld => ?_)
                  · exact hq
                  clear hK K
                  (try simp only [Act.put, List.setIfInBounds_toArray, List.set_cons_zero, List.set_cons_succ])
                  refine wpAnyH_take (i := 8) (oi := ⟨some 189, _, _, _, _, _⟩) (v := ?_) rfl (by kernel_rfl) (by kernel_rfl) (by kernel_rfl) (fun _ _ _ h => h) (Or.inl ⟨by rfl, ?_⟩) (by assumption) ?_
                  rotate_left
                  · intro w hSw
                    (try dsimp only at hSw)
                    go_simp
                    (try with_reducible rfl)
                  (try simp only [Act.put, List.setIfInBounds_toArray, List.set_cons_zero, List.set_cons_succ])
                  refine wpAnyH_take (i := 9) (oi := ⟨some 198, _, _, _, _, _⟩) (v := ?_) rfl (by kernel_rfl) (by kernel_rfl) (by kernel_rfl) (fun _ _ _ h => h) (Or.inl ⟨by rfl, ?_⟩) (by assumption) ?_
                  rotate_left
                  · intro w hSw
                    (try dsimp only at hSw)
                    go_simp
                    (try with_reducible rfl)
                  (try simp only [Act.put, List.setIfInBounds_toArray, List.set_cons_zero, List.set_cons_succ])
                  refine wpAnyH_take (i := 10) (oi := ⟨some 199, _, _, _, _, _⟩) (v := ?_) rfl (by kernel_rfl) (by kernel_rfl) (by kernel_rfl) (fun _ _ _ h => h) (Or.inl ⟨by rfl, ?_⟩) (by assumption) ?_
                  rotate_left
                  · intro w hSw
                    (try dsimp only at hSw)
                    go_simp
                    (try with_reducible rfl)
                  (try simp only [Act.put, List.setIfInBounds_toArray, List.set_cons_zero, List.set_cons_succ])
                  refine wpAnyH_take (i := 11) (oi := ⟨some 23, _, _, _, _, _⟩) (v := ?_) rfl (by kernel_rfl) (by kernel_rfl) (by kernel_rfl) (fun _ _ _ h => h) (Or.inl ⟨by rfl, ?_⟩) (by assumption) ?_
                  rotate_left
                  · intro w hSw
                    (try dsimp only at hSw)
                    go_simp
                    (try with_reducible rfl)
                  (try simp only [Act.put, List.setIfInBounds_toArray, List.set_cons_zero, List.set_cons_succ])
                  refine wpAnyH_take (i := 12) (oi := ⟨some 24, _, _, _, _, _⟩) (v := ?_) rfl (by kernel_rfl) (by kernel_rfl) (by kernel_rfl) (fun _ _ _ h => h) (Or.inl ⟨by rfl, ?_⟩) (by assumption) ?_
                  rotate_left
                  · intro w hSw
                    (try dsimp only at hSw)
                    go_simp
                    (try with_reducible rfl)
                  (try simp only [Act.put, List.setIfInBounds_toArray, List.set_cons_zero, List.set_cons_succ])
                  refine wpAnyH_done (by kernel_rfl) ?_ _
                  obtain ⟨⟨z0, z1, z2⟩, m0, m1, m2⟩ := hq
                  have z3 := Cy3.out _ HB910.out
                  have l0 := Cnj0.out _ HB910.out
                  have l1 := Cnj1.out _ HB910.out
                  have l2 := Cnj2.out _ HB910.out
                  have l3 := Cnj3.out _ HB910.out
                  have l4 := Cnj4.out _ HB910.out
                  have l5 := Cnj5.out _ HB910.out
                  have l6 := Cnj6.out _ HB910.out
                  have h1 := neKeyS yu ys yk
                  have h2 : ∀ w, (binOp .neq 25 (.agg #[.int .i64 yz, .int .i64 ya, .int .i64 yn]) (.agg #[.int .i64 yz, .int .i64 ya, .int .i64 yn])).run Tryd.prog w = .ok (.bool false) w := fun w => by rw [nePtr]; simp
                  go_upto_region 50 with (fail)
                  go_region
                  go_upto_region 54 with (fail)
                  have hby := (Below.refl w10.heap.size w10).alloc (Nat.le_refl _) (.cells #[.string yu, .int .i64 (ys + 1), .int .i64 yk] 27)
                  have hbd := (Below.refl (w10.alloc (.cells #[.string yu, .int .i64 (ys + 1), .int .i64 yk] 27)).heap.size (w10.alloc (.cells #[.string yu, .int .i64 (ys + 1), .int .i64 yk] 27))).drew
                  obtain ⟨o0, o1, o2⟩ := cells3n (w := w10) (a := .string yu) (b := .int .i64 (ys + 1)) (c := .int .i64 yk) (T := 27)
                  have r0 := cell_next o0 _ hbd
                  have r1 := cell_next o1 _ hbd
                  have r2 := cell_next o2 _ hbd
                  have hbyd := hby.trans (hbd.mono hby.size)
                  have s0 := cell_next m0 _ hbyd
                  have s1 := cell_next m1 _ hbyd
                  have s2 := cell_next m2 _ hbyd
                  have HB912 := Lib.hid (HB910.out.trans (hbyd.mono HB910.out.size))
                  clear hby hbd hbyd o0 o1 o2 m0 m1 m2 z0 z1 z2 z3 l0 l1 l2 l3 l4 l5 l6 h1 h2
                  generalize (w10.alloc (.cells #[.string yu, .int .i64 (ys + 1), .int .i64 yk] 27)).drew = w12 at *
                  obtain ⟨tk, htk⟩ : ∃ tk, w10.heap.size = tk := ⟨_, rfl⟩
                  rw [htk] at r0 r1 r2 ⊢
                  clear htk
                  have hbd12 : Below w12.heap.size w12 w12.drew := (Below.refl _ w12).drew
                  have HBd12 := Lib.hid hbd12
                  have HG12 := HG9o.out _ (HB912.out.trans (hbd12.mono HB912.out.size))
                  clear hbd12
                  have HG12h := Lib.hid HG12
                  clear HG12 HG9o
                  refine wp_region_held_drew (S := fun w' => (w'.cell? ⟨tk, 0, none⟩ = some (.string yu) ∧ w'.cell? ⟨tk, 1, none⟩ = some (.int .i64 (ys + 1)) ∧ w'.cell? ⟨tk, 2, none⟩ = some (.int .i64 yk)) ∧ w'.cell? ⟨g3, j * 3, none⟩ = some (.int .i64 yz) ∧ w'.cell? ⟨g3, j * 3 + 1, none⟩ = some (.int .i64 ya) ∧ w'.cell? ⟨g3, j * 3 + 2, none⟩ = some (.int .i64 yn)) (by kernel_rfl) ⟨⟨r0, r1, r2⟩, s0, s1, s2⟩ (fun hHeld => ?_)
                  refine wpAnyH_take (i := 0) (oi := ⟨some 247, _, _, _, _, _⟩) (v := ?_) rfl (by kernel_rfl) (by kernel_rfl) (by kernel_rfl) (fun _ _ _ h => h) (Or.inl ⟨by rfl, ?_⟩) (by assumption) ?_
                  rotate_left
                  · intro w hSw
                    (try dsimp only at hSw)
                    go_simp
                    (try with_reducible rfl)
                  (try simp only [Act.put, List.setIfInBounds_toArray, List.set_cons_zero, List.set_cons_succ])
                  refine wpAnyH_take (i := 1) (oi := ⟨some 248, _, _, _, _, _⟩) (v := ?_) rfl (by kernel_rfl) (by kernel_rfl) (by kernel_rfl) (fun _ _ _ h => h) (Or.inl ⟨by rfl, ?_⟩) (by assumption) ?_
                  rotate_left
                  · intro w hSw
                    (try dsimp only at hSw)
                    go_simp
                    (try with_reducible rfl)
                  (try simp only [Act.put, List.setIfInBounds_toArray, List.set_cons_zero, List.set_cons_succ])
                  refine wpAnyH_take (i := 2) (oi := ⟨some 249, _, _, _, _, _⟩) (v := ?_) rfl (by kernel_rfl) (by kernel_rfl) (by kernel_rfl) (fun _ _ _ h => h) (Or.inl ⟨by rfl, ?_⟩) (by assumption) ?_
                  rotate_left
                  · intro w hSw
                    (try dsimp only at hSw)
                    go_simp
                    (try with_reducible rfl)
                  (try simp only [Act.put, List.setIfInBounds_toArray, List.set_cons_zero, List.set_cons_succ])
                  refine wpAnyH_take (i := 3) (oi := ⟨some 250, _, _, _, _, _⟩) (v := ?_) rfl (by kernel_rfl) (by kernel_rfl) (by kernel_rfl) (fun _ _ _ h => h) (Or.inl ⟨by rfl, ?_⟩) (by assumption) ?_
                  rotate_left
                  · intro w hSw
                    (try dsimp only at hSw)
                    go_simp
                    (try with_reducible rfl)
                  (try simp only [Act.put, List.setIfInBounds_toArray, List.set_cons_zero, List.set_cons_succ])
                  refine wpAnyH_take (i := 4) (oi := ⟨some 251, _, _, _, _, _⟩) (v := ?_) rfl (by kernel_rfl) (by kernel_rfl) (by kernel_rfl) (fun _ _ _ h => h) (Or.inl ⟨by rfl, ?_⟩) (by assumption) ?_
                  rotate_left
                  · intro w hSw
                    (try dsimp only at hSw)
                    go_simp
                    (try with_reducible rfl)
                  (try simp only [Act.put, List.setIfInBounds_toArray, List.set_cons_zero, List.set_cons_succ])
                  refine wpAnyH_take (i := 5) (oi := ⟨some 252, _, _, _, _, _⟩) (v := ?_) rfl (by kernel_rfl) (by kernel_rfl) (by kernel_rfl) (fun _ _ _ h => h) (Or.inl ⟨by rfl, ?_⟩) (by assumption) ?_
                  rotate_left
                  · intro w hSw
                    (try dsimp only at hSw)
                    go_simp
                    (try with_reducible rfl)
                  (try simp only [Act.put, List.setIfInBounds_toArray, List.set_cons_zero, List.set_cons_succ])
                  refine wpAnyH_ready (rs := [6]) (by kernel_rfl) (by simp) ?_
                  refine AllReadyH.cons (o := ⟨some 253, _, _, _, _, _⟩) rfl (fun K hK => ?_) ?_
                  · go_simp
                    (with_reducible refine (HG12h.out).mono ?_)
                    rintro e w13 ⟨⟨vx, rfl⟩, hb13⟩
                    have hb1213 := HBd12.out.trans (hb13.mono HBd12.out.size)
                    have hq := And.intro (And.intro (cell_next r0 _ hb1213) (And.intro (cell_next r1 _ hb1213) (cell_next r2 _ hb1213))) (And.intro (cell_next s0 _ hb1213) (And.intro (cell_next s1 _ hb1213) (cell_next s2 _ hb1213)))
                    have HBe := Lib.hid (HB49.out.trans ((HB912.out.trans (hb1213.mono HB912.out.size)).mono HB49.out.size))
                    clear hb13 hb1213 r0 r1 r2 s0 s1 s2
                    go_wp2_with fail
                    refine hK.out _ _ ?_ (fun hHeld => ?_)
                    · exact hq
                    clear hK K
                    (try simp only [Act.put, List.setIfInBounds_toArray, List.set_cons_zero, List.set_cons_succ])
                    refine wpAnyH_take (i := 7) (oi := ⟨some 246, _, _, _, _, _⟩) (v := ?_) rfl (by kernel_rfl) (by kernel_rfl) (by kernel_rfl) (fun _ _ _ h => h) (Or.inl ⟨by rfl, ?_⟩) (by assumption) ?_
                    rotate_left
                    · intro w hSw
                      (try dsimp only at hSw)
                      go_simp
                      (try with_reducible rfl)
                    (try simp only [Act.put, List.setIfInBounds_toArray, List.set_cons_zero, List.set_cons_succ])
                    refine wpAnyH_take (i := 8) (oi := ⟨some 254, _, _, _, _, _⟩) (v := ?_) rfl (by kernel_rfl) (by kernel_rfl) (by kernel_rfl) (fun _ _ _ h => h) (Or.inl ⟨by rfl, ?_⟩) (by assumption) ?_
                    rotate_left
                    · intro w hSw
                      (try dsimp only at hSw)
                      go_simp
                      (try with_reducible rfl)
                    (try simp only [Act.put, List.setIfInBounds_toArray, List.set_cons_zero, List.set_cons_succ])
                    refine wpAnyH_take (i := 9) (oi := ⟨some 255, _, _, _, _, _⟩) (v := ?_) rfl (by kernel_rfl) (by kernel_rfl) (by kernel_rfl) (fun _ _ _ h => h) (Or.inl ⟨by rfl, ?_⟩) (by assumption) ?_
                    rotate_left
                    · intro w hSw
                      (try dsimp only at hSw)
                      go_simp
                      (try with_reducible rfl)
                    (try simp only [Act.put, List.setIfInBounds_toArray, List.set_cons_zero, List.set_cons_succ])
                    refine wpAnyH_take (i := 10) (oi := ⟨some 24, _, _, _, _, _⟩) (v := ?_) rfl (by kernel_rfl) (by kernel_rfl) (by kernel_rfl) (fun _ _ _ h => h) (Or.inl ⟨by rfl, ?_⟩) (by assumption) ?_
                    rotate_left
                    · intro w hSw
                      (try dsimp only at hSw)
                      go_simp
                      (try with_reducible rfl)
                    (try simp only [Act.put, List.setIfInBounds_toArray, List.set_cons_zero, List.set_cons_succ])
                    refine wpAnyH_done (by kernel_rfl) ?_ _
                    clear hq hHeld
                    go_wp2
                    go_roundw
                    case rel => exact ⟨j + 1, by omega, by go_num, HBe.out⟩
                    case measure => simp [intOf]; omega
                  exact AllReadyH.nil
                exact AllReadyH.nil
              · have HA := Lib.hid (awake14 (HT.out.below (HBr.out.trans (hbL.mono HBr.out.size))))
                have HBq := Lib.hid (HBr.out.trans (hbL.mono HBr.out.size))
                clear hbr hbL
                go_wp2_with fail; (with_reducible refine (HA.out).mono ?_); rintro e w11 ⟨rfl, hb11⟩
                go_wp2
                go_ret
                exact ⟨by first | rfl | simp, HBq.out.trans (hb11.mono HBq.out.size)⟩
end Go.Proofs.YtmhklmecpbdljaaDoor
