/- Chapter 11: MemPlays: its walk. -/
import Derived.Test.YtcbkjhbneigkaaaYMl2
namespace Go.Proofs.Ytcbkjhbneigkaaa
open Go.RowKit
set_option linter.unusedVariables false
set_option linter.unusedSimpArgs false

set_option maxRecDepth 100000 in
set_option maxHeartbeats 8000000 in
theorem plays11 {w : World} {a da : Option Addr} {c dc : Nat} {l : List BatD} {D : List Int} {u : ByteArray} {at' : Int} (h : BTs w a l) (hD : IR w da D) (hl : l.length ≤ maxLen) (hm : D.length ≤ maxLen) (hu : u.size ≤ maxLen) (ha : -9223372036854775808 ≤ at') (ha2 : at' ≤ 9223372036854775807) :
    Calls Try.prog 6 #[.agg #[.slice a l.length c, .slice da D.length dc, .string u, .int .i64 at']] w fun e w' => e = .returned (.bool true) ∧ Below w.heap.size w w' := by
  have H := Lib.hid h
  have H2 := Lib.hid hD
  have HM := Lib.hid hm
  have HU := Lib.hid hu
  have HSm : Hid (∀ W, Below w.heap.size w W → Calls Try.prog 12 #[.slice a l.length c] W fun e w' => e = .returned (.bool (small11 l)) ∧ Below W.heap.size W w') := Lib.hid fun W hb => msmall (h.below hb) hl
  unfold maxLen at hm hu
  clear h hD
  go_enter Try.func6, Try.ntmps6
  go_upto_region 1 with (fail)
  refine gen_wp (fun w' => Below w.heap.size w w' ∧ w'.heap[w.heap.size]? = some (.cells #[.slice a l.length c, .slice da D.length dc, .string u, .int .i64 at'] 56 (0, 0))) ⟨(Below.refl _ w).alloc (Nat.le_refl _) _, heap_alloc_new w _⟩ ?_
  rintro w0 ⟨hb0, b0⟩
  obtain ⟨x0, x1, x2, x3, _⟩ := mcell_four b0
  have s0 := cell_next x0
  have s1 := cell_next x1
  have s2 := cell_next x2
  have s3 := cell_next x3
  have HB0 := Lib.hid hb0
  have HSm0 := Lib.hid (HSm.out _ hb0)
  clear hb0 b0 HSm
  cases hs : small11 l with
  | false =>
    rw [hs] at HSm0
    clear hs
    go_wp2_with fail; (with_reducible refine (HSm0.out).mono ?_); rintro e w1 ⟨rfl, hb1⟩
    go_wp2_with fail; (with_reducible refine (awake11 _).mono ?_); rintro e w2 ⟨rfl, hb2⟩
    go_wp2
    go_ret
    exact ⟨rfl, HB0.out.trans ((bnext hb1 hb2).mono HB0.out.size)⟩
  | true =>
    rw [hs] at HSm0
    obtain ⟨hs30, _⟩ := small11_all hs
    clear hs
    by_cases hd : D.length ≤ 100 ∧ u.size ≤ 200
    case neg =>
      have hd2 : 100 < D.length ∨ (D.length ≤ 100 ∧ 200 < u.size) := by omega
      clear hd
      rcases hd2 with hd | ⟨hd, hd2⟩
      all_goals
        go_wp2_with fail; (with_reducible refine (HSm0.out).mono ?_); rintro e w1 ⟨rfl, hb1⟩
        have e1 := s1 _ hb1
        have e2 := s2 _ hb1
        go_wp2_with fail; (with_reducible refine (awake11 _).mono ?_); rintro e w2 ⟨rfl, hb2⟩
        go_wp2
        go_ret
        exact ⟨rfl, HB0.out.trans ((bnext hb1 hb2).mono HB0.out.size)⟩
    obtain ⟨hd, hd2⟩ := hd
    go_wp2_with fail; (with_reducible refine (HSm0.out).mono ?_); rintro e w1 ⟨rfl, hb1⟩
    have e0 := s0 _ hb1
    have e1 := s1 _ hb1
    have e2 := s2 _ hb1
    have HB1 := Lib.hid (HB0.out.trans (hb1.mono HB0.out.size))
    have HFa := Lib.hid (mfill (c := c) (dc := dc) (H.out.below HB1.out) (H2.out.below HB1.out) hs30 HM.out)
    have Hb1 := Lib.hid hb1
    clear hb1
    go_wp2_with fail; (with_reducible refine (HFa.out).mono ?_); rintro e w2 ⟨t, p, F, v, rfl, hT, hR, hb2⟩
    have HB2 := Lib.hid (bnext Hb1.out hb2)
    have hln := fillN_len l l.length (Nat.le_refl _)
    obtain ⟨av, cv, rfl⟩ := hR.shape
    have HIv := Lib.hid hT.inv
    have HT := Lib.hid hT
    have HR := Lib.hid hR
    have HEs := Lib.hid (hT.entries (by omega))
    generalize (fillN l l.length).1 = M at *
    generalize (fillN l l.length).2 = last at *
    clear hT hR hb2 e0 e1 e2 HSm0 HFa
    go_wp2_with fail; (with_reducible refine (HEs.out).mono ?_); rintro e w3 ⟨y, rfl, ho3, hb3⟩
    have HB3 := Lib.hid (bnext HB2.out hb3)
    have HT3 := Lib.hid (HT.out.below hb3)
    have HR3 := Lib.hid (HR.out.below hb3)
    obtain ⟨ay, cy, rfl, _⟩ := row_shape ho3
    have HY := Lib.hid ho3
    clear ho3 hb3 HT HR HEs
    go_wp2
    go_loopw [52] (fun i wr => ∃ k : Nat, k ≤ M.length ∧ i = .int .i64 k ∧ Below w3.heap.size w3 wr) (fun i _ => M.length - (intOf i).toNat)
    case atStart => exact ⟨0, Nat.zero_le _, rfl, Below.refl _ _⟩
    case round =>
      obtain ⟨k, hk, rfl, hbr⟩ := hrel
      by_cases hlt : k < M.length
      · obtain ⟨g, rfl, d0, d1, d2, d3⟩ := HR3.out.cells hbr k hlt
        obtain ⟨g2, rfl, f0, f1, f2, f3⟩ := mrow_cells (row_past HY.out hbr (Nat.le_refl _)) k hlt rfl
        have HBr := Lib.hid hbr
        have HB0r := Lib.hid (bnext HB3.out hbr)
        have HEu := Lib.hid (HIv.out.ok _ (List.getElem_mem hlt)).user
        have HTr := Lib.hid (HT3.out.below hbr)
        have HRr := Lib.hid (HR3.out.below hbr)
        have y3 := s3 _ HB0r.out
        have t0 := cell_next d0
        have t1 := cell_next d1
        have t2 := cell_next d2
        have t3 := cell_next d3
        have r0 := cell_next f0
        have r1 := cell_next f1
        have r2 := cell_next f2
        have r3 := cell_next f3
        have z3 := cell_next y3
        have Bg := bnext_grow (Below.refl wr.heap.size wr)
        generalize M[k] = E at *
        obtain ⟨Eu, Es, Ek, Ev⟩ := E
        simp only at d0 d1 d2 d3 f0 f1 f2 f3 t0 t1 t2 t3 r0 r1 r2 r3 HEu
        have hq := fun W => neRk Eu Es Ek W
        have hq2 := str_eq (rfl : Ev = Ev)
        have HLr := Lib.hid fun W => lref Eu Es Ek W
        clear hbr d0 d1 d2 d3 f0 f1 f2 f3
        go_upto_region 12 with (fail)
        refine wp_region_quiet_below (by kernel_rfl) (by kernel_rfl) ?_; (repeat (go_big_quiet_step ((go_at_call 18; (with_reducible refine Calls.regrown_of (HLr.out _)))))); refine wpQuiet_nil ?_; rintro _ ⟨pq, rfl⟩
        go_upto_region 14 with (fail)
        refine gen_wp (fun w' => Below wr.heap.size wr w') (Bg _ _) ?_
        rintro w4 hb4
        have r0' := r0 _ hb4
        have z3' := z3 _ hb4
        have HB4 := Lib.hid (HBr.out.trans (hb4.mono HBr.out.size))
        have HT4 := Lib.hid (HTr.out.below hb4)
        have HR4 := Lib.hid (HRr.out.below hb4)
        obtain ⟨vu, vs, vk, vv, bis, hg1, hg2, hg3⟩ := got_agg M Eu at'
        have HG : Hid (∀ W, Below w4.heap.size w4 W → Calls Try.prog 11 #[.pointer (some ⟨t, 0, none⟩), .string Eu, .int .i64 at'] W fun e w' => e = .returned (.tuple #[.agg #[.string vu, .int .i64 vs, .int .i64 vk, .string vv], .bool bis]) ∧ Below W.heap.size W w') := Lib.hid fun W hb => by
          have h1 := (HT4.out.below hb).get (by omega) Eu at' HEu.out ha ha2
          rw [hg1, hg2] at h1; exact h1
        have HSg : Hid (∀ W, Below w4.heap.size w4 W → Calls Try.prog 19 #[.agg #[.string vu, .int .i64 vs, .int .i64 vk, .string vv], .bool bis, .slice (some ⟨g, 0, none⟩) M.length cv, .int .i64 (mgetI M Eu at')] W fun e w' => e = .returned (.bool true) ∧ Below W.heap.size W w') := Lib.hid fun W hb => by
          have h1 := same_got (HR4.out.below hb) (by omega) Eu at'
          rw [hg1, hg2] at h1; exact h1
        have HRg : Hid (∀ W, Below w4.heap.size w4 W → Calls Try.prog 20 #[.slice (some ⟨g, 0, none⟩) M.length cv, .string Eu, .int .i64 at'] W fun e w' => e = .returned (.int .i64 (mgetI M Eu at')) ∧ Below W.heap.size W w') := Lib.hid fun W hb => refget (HR4.out.below hb) HIv.out (by omega) Eu at'
        have hqz : w.heap.size < w4.heap.size := World.block_lt_of_cell? w4 _ z3'
        have hgz : g2 < w4.heap.size := World.block_lt_of_cell? w4 _ r0'
        clear hg1 hg2 hg3 hb4 hq hq2 HLr Bg t0 t1 t2 t3 r1 r2 r3 r0 z3 y3
        go_cut [8, 9] from 80 to 92 (fun pp bb wx => ∃ q, pp = .pointer (some ⟨q, 0, none⟩) ∧ bb = .bool bis ∧ wx.heap[q]? = some (.cells #[.string vu, .int .i64 vs, .int .i64 vk, .string vv] 36 (0, 0)) ∧ Below w4.heap.size w4 wx)
        case first =>
          refine wp_region_held_drew (S := fun w' => w'.cell? ⟨w.heap.size, 3, none⟩ = some (.int .i64 at') ∧ w'.cell? ⟨g2, k * 4, none⟩ = some (.string Eu)) (by kernel_rfl) ⟨z3', r0'⟩ (fun hHeld => ?_)
          refine wpAnyH_take (i := 0) (oi := ⟨some 81, _, _, _, _, _⟩) (v := ?_) rfl (by kernel_rfl) (by kernel_rfl) (by kernel_rfl) (fun _ _ _ h => h) (Or.inl ⟨by rfl, ?_⟩) (by assumption) ?_
          rotate_left
          · intro w hSw
            (try dsimp only at hSw)
            go_simp
            (try with_reducible rfl)
          (try simp only [Act.put, List.setIfInBounds_toArray, List.set_cons_zero, List.set_cons_succ])
          refine wpAnyH_take (i := 1) (oi := ⟨some 82, _, _, _, _, _⟩) (v := ?_) rfl (by kernel_rfl) (by kernel_rfl) (by kernel_rfl) (fun _ _ _ h => h) (Or.inl ⟨by rfl, ?_⟩) (by assumption) ?_
          rotate_left
          · intro w hSw
            (try dsimp only at hSw)
            go_simp
            (try with_reducible rfl)
          (try simp only [Act.put, List.setIfInBounds_toArray, List.set_cons_zero, List.set_cons_succ])
          refine wpAnyH_take (i := 2) (oi := ⟨some 83, _, _, _, _, _⟩) (v := ?_) rfl (by kernel_rfl) (by kernel_rfl) (by kernel_rfl) (fun _ _ _ h => h) (Or.inl ⟨by rfl, ?_⟩) (by assumption) ?_
          rotate_left
          · intro w hSw
            (try dsimp only at hSw)
            go_simp
            (try with_reducible rfl)
          (try simp only [Act.put, List.setIfInBounds_toArray, List.set_cons_zero, List.set_cons_succ])
          refine wpAnyH_take (i := 3) (oi := ⟨some 84, _, _, _, _, _⟩) (v := ?_) rfl (by kernel_rfl) (by kernel_rfl) (by kernel_rfl) (fun _ _ _ h => h) (Or.inl ⟨by rfl, ?_⟩) (by assumption) ?_
          rotate_left
          · intro w hSw
            (try dsimp only at hSw)
            go_simp
            (try with_reducible rfl)
          (try simp only [Act.put, List.setIfInBounds_toArray, List.set_cons_zero, List.set_cons_succ])
          refine wpAnyH_take (i := 4) (oi := ⟨some 85, _, _, _, _, _⟩) (v := ?_) rfl (by kernel_rfl) (by kernel_rfl) (by kernel_rfl) (fun _ _ _ h => h) (Or.inl ⟨by rfl, ?_⟩) (by assumption) ?_
          rotate_left
          · intro w hSw
            (try dsimp only at hSw)
            go_simp
            (try with_reducible rfl)
          (try simp only [Act.put, List.setIfInBounds_toArray, List.set_cons_zero, List.set_cons_succ])
          refine wpAnyH_take (i := 5) (oi := ⟨some 86, _, _, _, _, _⟩) (v := ?_) rfl (by kernel_rfl) (by kernel_rfl) (by kernel_rfl) (fun _ _ _ h => h) (Or.inl ⟨by rfl, ?_⟩) (by assumption) ?_
          rotate_left
          · intro w hSw
            (try dsimp only at hSw)
            go_simp
            (try with_reducible rfl)
          (try simp only [Act.put, List.setIfInBounds_toArray, List.set_cons_zero, List.set_cons_succ])
          refine wpAnyH_take (i := 6) (oi := ⟨some 87, _, _, _, _, _⟩) (v := ?_) rfl (by kernel_rfl) (by kernel_rfl) (by kernel_rfl) (fun _ _ _ h => h) (Or.inl ⟨by rfl, ?_⟩) (by assumption) ?_
          rotate_left
          · intro w hSw
            (try dsimp only at hSw)
            go_simp
            (try with_reducible rfl)
          (try simp only [Act.put, List.setIfInBounds_toArray, List.set_cons_zero, List.set_cons_succ])
          refine wpAnyH_take (i := 7) (oi := ⟨some 88, _, _, _, _, _⟩) (v := ?_) rfl (by kernel_rfl) (by kernel_rfl) (by kernel_rfl) (fun _ _ _ h => h) (Or.inl ⟨by rfl, ?_⟩) (by assumption) ?_
          rotate_left
          · intro w hSw
            (try dsimp only at hSw)
            go_simp
            (try with_reducible rfl)
          (try simp only [Act.put, List.setIfInBounds_toArray, List.set_cons_zero, List.set_cons_succ])
          refine wpAnyH_take (i := 8) (oi := ⟨some 89, _, _, _, _, _⟩) (v := ?_) rfl (by kernel_rfl) (by kernel_rfl) (by kernel_rfl) (fun _ _ _ h => h) (Or.inl ⟨by rfl, ?_⟩) (by assumption) ?_
          rotate_left
          · intro w hSw
            (try dsimp only at hSw)
            go_simp
            (try with_reducible rfl)
          (try simp only [Act.put, List.setIfInBounds_toArray, List.set_cons_zero, List.set_cons_succ])
          refine wpAnyH_ready (rs := [9, 13]) (by kernel_rfl) (by simp) ?_
          refine AllReadyH.cons (o := ⟨some 90, _, _, _, _, _⟩) rfl (fun K hK => ?_) ?_
          · go_simp
            (with_reducible refine (HG.out _ (Below.refl _ _).drew).mono ?_)
            rintro e w6 ⟨rfl, hb6⟩
            have hd6 : Below w4.heap.size w4 w6 := (Below.refl _ w4).drew.trans hb6
            go_wp2_with fail
            refine hK.out _ _ ?_ (fun hHeld => ?_)
            · exact ⟨cell_next z3' _ hd6, cell_next r0' _ hd6⟩
            clear hK K
            (try simp only [Act.put, List.setIfInBounds_toArray, List.set_cons_zero, List.set_cons_succ])
            refine wpAnyH_take (i := 10) (oi := ⟨some 80, _, _, _, _, _⟩) (v := ?_) rfl (by kernel_rfl) (by kernel_rfl) (by kernel_rfl) (fun _ _ _ h => h) (Or.inl ⟨by rfl, ?_⟩) (by assumption) ?_
            rotate_left
            · intro w hSw
              (try dsimp only at hSw)
              go_simp
              (try with_reducible rfl)
            (try simp only [Act.put, List.setIfInBounds_toArray, List.set_cons_zero, List.set_cons_succ])
            refine wpAnyH_take (i := 11) (oi := ⟨some 91, _, _, _, _, _⟩) (v := ?_) rfl (by kernel_rfl) (by kernel_rfl) (by kernel_rfl) (fun _ _ _ h => h) (Or.inl ⟨by rfl, ?_⟩) (by assumption) ?_
            rotate_left
            · intro w hSw
              (try dsimp only at hSw)
              go_simp
              (try with_reducible rfl)
            (try simp only [Act.put, List.setIfInBounds_toArray, List.set_cons_zero, List.set_cons_succ])
            refine wpAnyH_take (i := 12) (oi := ⟨some 92, _, _, _, _, _⟩) (v := ?_) rfl (by kernel_rfl) (by kernel_rfl) (by kernel_rfl) (fun _ _ _ h => h) (Or.inl ⟨by rfl, ?_⟩) (by assumption) ?_
            rotate_left
            · intro w hSw
              (try dsimp only at hSw)
              go_simp
              (try with_reducible rfl)
            (try simp only [Act.put, List.setIfInBounds_toArray, List.set_cons_zero, List.set_cons_succ])
            refine wpAnyH_ready (rs := [13]) (by kernel_rfl) (by simp) ?_
            refine AllReadyH.cons (o := ⟨some 8, _, _, _, _, _⟩) rfl (fun K hK => ?_) ?_
            · go_simp
              have hd7 : Below w4.heap.size w4 (w6.alloc (.cells #[.string ⟨#[]⟩, .int .i64 0, .int .i64 0, .string ⟨#[]⟩] 36)) := hd6.alloc hd6.size _
              refine hK.out _ _ ?_ (fun hHeld => ?_)
              · exact ⟨cell_next z3' _ hd7, cell_next r0' _ hd7⟩
              clear hK K
              (try simp only [Act.put, List.setIfInBounds_toArray, List.set_cons_zero, List.set_cons_succ])
              refine wpAnyH_ready (rs := [14]) (by kernel_rfl) (by simp) ?_
              refine AllReadyH.cons (o := ⟨none, _, _, _, _, _⟩) rfl (fun K hK => ?_) ?_
              · go_simp
                have hd8 : Below w4.heap.size w4 (w6.alloc (.cells #[.string vu, .int .i64 vs, .int .i64 vk, .string vv] 36)) := hd6.alloc hd6.size _
                refine hK.out _ _ ?_ (fun hHeld => ?_)
                · exact ⟨cell_next z3' _ hd8, cell_next r0' _ hd8⟩
                clear hK K
                (try simp only [Act.put, List.setIfInBounds_toArray, List.set_cons_zero, List.set_cons_succ])
                refine wpAnyH_take (i := 15) (oi := ⟨some 9, _, _, _, _, _⟩) (v := ?_) rfl (by kernel_rfl) (by kernel_rfl) (by kernel_rfl) (fun _ _ _ h => h) (Or.inl ⟨by rfl, ?_⟩) (by assumption) ?_
                rotate_left
                · intro w hSw
                  (try dsimp only at hSw)
                  go_simp
                  (try with_reducible rfl)
                (try simp only [Act.put, List.setIfInBounds_toArray, List.set_cons_zero, List.set_cons_succ])
                refine wpAnyH_done (by kernel_rfl) ?_ _
                go_wp2
                go_meet
                exact ⟨_, rfl, rfl, heap_alloc_new w6 _, hd8⟩
              exact AllReadyH.nil
            exact AllReadyH.nil
          refine AllReadyH.cons (o := ⟨some 8, _, _, _, _, _⟩) rfl (fun K hK => ?_) ?_
          · go_simp
            have hd7 : Below w4.heap.size w4 (w4.alloc (.cells #[.string ⟨#[]⟩, .int .i64 0, .int .i64 0, .string ⟨#[]⟩] 36)).drew := ((Below.refl _ w4).alloc (Nat.le_refl _) _).drew
            refine hK.out _ _ ?_ (fun hHeld => ?_)
            · exact ⟨cell_next z3' _ hd7, cell_next r0' _ hd7⟩
            clear hK K
            (try simp only [Act.put, List.setIfInBounds_toArray, List.set_cons_zero, List.set_cons_succ])
            refine wpAnyH_ready (rs := [9]) (by kernel_rfl) (by simp) ?_
            refine AllReadyH.cons (o := ⟨some 90, _, _, _, _, _⟩) rfl (fun K hK => ?_) ?_
            · go_simp
              (with_reducible refine (HG.out _ hd7).mono ?_)
              rintro e w6 ⟨rfl, hb6⟩
              have hd6 := hd7.trans (hb6.mono hd7.size)
              have b6 : w6.heap[w4.heap.size]? = some (.cells #[.string ⟨#[]⟩, .int .i64 0, .int .i64 0, .string ⟨#[]⟩] 36 (0, 0)) := (hb6.block _ (by simp)).trans (mnew_drew rfl)
              obtain ⟨q0, q1, q2, q3, qf⟩ := mcell_four b6
              have qf0 := qf 0; have qf1 := qf 1; have qf2 := qf 2; have qf3 := qf 3
              have hz6 := blk_lt b6
              go_wp2_with fail
              refine hK.out _ _ ?_ (fun hHeld => ?_)
              · exact ⟨cell_next z3' _ hd6, cell_next r0' _ hd6⟩
              clear hK K
              (try simp only [Act.put, List.setIfInBounds_toArray, List.set_cons_zero, List.set_cons_succ])
              refine wpAnyH_take (i := 10) (oi := ⟨some 80, _, _, _, _, _⟩) (v := ?_) rfl (by kernel_rfl) (by kernel_rfl) (by kernel_rfl) (fun _ _ _ h => h) (Or.inl ⟨by rfl, ?_⟩) (by assumption) ?_
              rotate_left
              · intro w hSw
                (try dsimp only at hSw)
                go_simp
                (try with_reducible rfl)
              (try simp only [Act.put, List.setIfInBounds_toArray, List.set_cons_zero, List.set_cons_succ])
              refine wpAnyH_take (i := 11) (oi := ⟨some 91, _, _, _, _, _⟩) (v := ?_) rfl (by kernel_rfl) (by kernel_rfl) (by kernel_rfl) (fun _ _ _ h => h) (Or.inl ⟨by rfl, ?_⟩) (by assumption) ?_
              rotate_left
              · intro w hSw
                (try dsimp only at hSw)
                go_simp
                (try with_reducible rfl)
              (try simp only [Act.put, List.setIfInBounds_toArray, List.set_cons_zero, List.set_cons_succ])
              refine wpAnyH_take (i := 12) (oi := ⟨some 92, _, _, _, _, _⟩) (v := ?_) rfl (by kernel_rfl) (by kernel_rfl) (by kernel_rfl) (fun _ _ _ h => h) (Or.inl ⟨by rfl, ?_⟩) (by assumption) ?_
              rotate_left
              · intro w hSw
                (try dsimp only at hSw)
                go_simp
                (try with_reducible rfl)
              (try simp only [Act.put, List.setIfInBounds_toArray, List.set_cons_zero, List.set_cons_succ])
              refine wpAnyH_ready (rs := [14]) (by kernel_rfl) (by simp) ?_
              refine AllReadyH.cons (o := ⟨none, _, _, _, _, _⟩) rfl (fun K hK => ?_) ?_
              · go_simp
                have hd8 : Below w4.heap.size w4 ((((w6.setCell ⟨w4.heap.size, 0, none⟩ (.string vu)).setCell ⟨w4.heap.size, 1, none⟩ (.int .i64 vs)).setCell ⟨w4.heap.size, 2, none⟩ (.int .i64 vk)).setCell ⟨w4.heap.size, 3, none⟩ (.string vv)) := (((hd6.setCell (Nat.le_refl _) _).setCell (Nat.le_refl _) _).setCell (Nat.le_refl _) _).setCell (Nat.le_refl _) _
                refine hK.out _ _ ?_ (fun hHeld => ?_)
                · exact ⟨cell_next z3' _ hd8, cell_next r0' _ hd8⟩
                clear hK K
                (try simp only [Act.put, List.setIfInBounds_toArray, List.set_cons_zero, List.set_cons_succ])
                refine wpAnyH_take (i := 15) (oi := ⟨some 9, _, _, _, _, _⟩) (v := ?_) rfl (by kernel_rfl) (by kernel_rfl) (by kernel_rfl) (fun _ _ _ h => h) (Or.inl ⟨by rfl, ?_⟩) (by assumption) ?_
                rotate_left
                · intro w hSw
                  (try dsimp only at hSw)
                  go_simp
                  (try with_reducible rfl)
                (try simp only [Act.put, List.setIfInBounds_toArray, List.set_cons_zero, List.set_cons_succ])
                refine wpAnyH_done (by kernel_rfl) ?_ _
                go_wp2
                go_meet
                exact ⟨_, rfl, rfl, mset4z b6 _ _ _ _, hd8⟩
              exact AllReadyH.nil
            exact AllReadyH.nil
          exact AllReadyH.nil
        case rest =>
          obtain ⟨q, rfl, rfl, b5, hb5⟩ := hcut
          obtain ⟨q0, q1, q2, q3, _⟩ := mcell_four b5
          have t0 := cell_next q0
          have t1 := cell_next q1
          have t2 := cell_next q2
          have t3 := cell_next q3
          have r0 := cell_next (cell_next r0' _ hb5)
          have z3 := cell_next (cell_next z3' _ hb5)
          have HB5 := Lib.hid hb5
          have HB5w := Lib.hid (HB4.out.trans (hb5.mono HB4.out.size))
          have Bg := bnext_grow (Below.refl wc.heap.size wc)
          have HBg : Hid (∀ d os, Below w4.heap.size w4 (Go.Sort.grow (redrawn wc d) os)) := Lib.hid fun d os => HB5.out.trans ((Bg d os).mono HB5.out.size)
          clear hb5 b5
          go_upto_region 15 with (fail)
          refine wp_region_quiet_below (by kernel_rfl) (by kernel_rfl) ?_; (repeat (go_big_quiet_step ((first | (go_at_call 20; (with_reducible refine Calls.regrown_of (HRg.out _ (HBg.out _ _)))) | (go_at_call 19; (with_reducible refine Calls.regrown_of (HSg.out _ (HBg.out _ _)))))))); refine wpQuiet_nil ?_; rintro _ ⟨pq, rfl⟩
          go_wp2
          go_roundw
          case rel => exact ⟨k + 1, by omega, by go_num, HB4.out.trans ((HBg.out _ _).mono HB4.out.size)⟩
          case measure => simp [intOf]; omega
      · have HB4 := Lib.hid (bnext HB3.out hbr)
        have HT4 := Lib.hid (HT3.out.below hbr)
        have HR4 := Lib.hid (HR3.out.below hbr)
        have z2 := s2 _ HB4.out
        have z3 := s3 _ HB4.out
        clear hbr HT3 HR3
        obtain ⟨vu, vs, vk, vv, bis, hg1, hg2, hg3⟩ := got_agg M u at'
        have HG : Hid (∀ W, Below wr.heap.size wr W → Calls Try.prog 11 #[.pointer (some ⟨t, 0, none⟩), .string u, .int .i64 at'] W fun e w' => e = .returned (.tuple #[.agg #[.string vu, .int .i64 vs, .int .i64 vk, .string vv], .bool bis]) ∧ Below W.heap.size W w') := Lib.hid fun W hb => by
          have h1 := (HT4.out.below hb).get (by omega) u at' HU.out ha ha2
          rw [hg1, hg2] at h1; exact h1
        have HSg : Hid (∀ W, Below wr.heap.size wr W → Calls Try.prog 19 #[.agg #[.string vu, .int .i64 vs, .int .i64 vk, .string vv], .bool bis, .slice av M.length cv, .int .i64 (mgetI M u at')] W fun e w' => e = .returned (.bool true) ∧ Below W.heap.size W w') := Lib.hid fun W hb => by
          have h1 := same_got (HR4.out.below hb) (by omega) u at'
          rw [hg1, hg2] at h1; exact h1
        have HRg : Hid (∀ W, Below wr.heap.size wr W → Calls Try.prog 20 #[.slice av M.length cv, .string u, .int .i64 at'] W fun e w' => e = .returned (.int .i64 (mgetI M u at')) ∧ Below W.heap.size W w') := Lib.hid fun W hb => refget (HR4.out.below hb) HIv.out (by omega) u at'
        have HUa : Hid (∀ W, Below wr.heap.size wr W → Calls Try.prog 21 #[.pointer (some ⟨t, 0, none⟩), .int .i64 at'] W (UsersOut W (musers at' M))) := Lib.hid fun W hb => (HT4.out.below hb).users (by omega) at'
        have HUb : Hid (∀ W, Below wr.heap.size wr W → Calls Try.prog 22 #[.slice av M.length cv, .int .i64 at'] W (UsersOut W (musers at' M))) := Lib.hid fun W hb => refusers (HR4.out.below hb) HIv.out (by omega) at'
        have hul : (musers at' M).length ≤ M.length := musersN_le at' M M.length
        generalize musers at' M = U at *
        clear hg1 hg2 hg3
        go_wp2_with fail; (with_reducible refine (HG.out _ (Below.refl _ _)).mono ?_); rintro e w5 ⟨rfl, hb5⟩
        have HB5 := Lib.hid hb5
        have z2 := cell_next z2 w5 hb5
        have z3 := cell_next z3 w5 hb5
        clear hb5
        go_upto_region 19 with (fail)
        refine gen_wp (fun w' => Below w5.heap.size w5 w' ∧ w'.heap[w5.heap.size]? = some (.cells #[.string vu, .int .i64 vs, .int .i64 vk, .string vv] 36 (0, 0))) ⟨(Below.refl _ w5).alloc (Nat.le_refl _) _, heap_alloc_new w5 _⟩ ?_
        rintro w6 ⟨hb6, b6⟩
        obtain ⟨q0, q1, q2, q3, _⟩ := mcell_four b6
        have z2 := cell_next z2 w6 hb6
        have z3 := cell_next z3 w6 hb6
        have HB6 := Lib.hid (HB5.out.trans (hb6.mono HB5.out.size))
        have hz5 := blk_lt b6
        clear hb6 b6
        generalize w5.heap.size = eq at *
        go_cut [12, 13] from 118 to 125 (fun va vb wx => ∃ aa ca ab cb, va = .slice aa U.length ca ∧ vb = .slice ab U.length cb ∧ wx.ownsRow w6.heap.size 9 1 (.slice aa U.length ca) U.length (svs U) ∧ wx.ownsRow w6.heap.size 9 1 (.slice ab U.length cb) U.length (svs U) ∧ Below w6.heap.size w6 wx)
        case first =>
          refine wp_region_held_drew (S := fun w' => w'.cell? ⟨w.heap.size, 3, none⟩ = some (.int .i64 at')) (by kernel_rfl) z3 (fun hHeld => ?_)
          refine wpAnyH_take (i := 0) (oi := ⟨some 118, _, _, _, _, _⟩) (v := ?_) rfl (by kernel_rfl) (by kernel_rfl) (by kernel_rfl) (fun _ _ _ h => h) (Or.inl ⟨by rfl, ?_⟩) (by assumption) ?_
          rotate_left
          · intro w hSw
            (try dsimp only at hSw)
            go_simp
            (try with_reducible rfl)
          (try simp only [Act.put, List.setIfInBounds_toArray, List.set_cons_zero, List.set_cons_succ])
          refine wpAnyH_take (i := 1) (oi := ⟨some 119, _, _, _, _, _⟩) (v := ?_) rfl (by kernel_rfl) (by kernel_rfl) (by kernel_rfl) (fun _ _ _ h => h) (Or.inl ⟨by rfl, ?_⟩) (by assumption) ?_
          rotate_left
          · intro w hSw
            (try dsimp only at hSw)
            go_simp
            (try with_reducible rfl)
          (try simp only [Act.put, List.setIfInBounds_toArray, List.set_cons_zero, List.set_cons_succ])
          refine wpAnyH_take (i := 2) (oi := ⟨some 120, _, _, _, _, _⟩) (v := ?_) rfl (by kernel_rfl) (by kernel_rfl) (by kernel_rfl) (fun _ _ _ h => h) (Or.inl ⟨by rfl, ?_⟩) (by assumption) ?_
          rotate_left
          · intro w hSw
            (try dsimp only at hSw)
            go_simp
            (try with_reducible rfl)
          (try simp only [Act.put, List.setIfInBounds_toArray, List.set_cons_zero, List.set_cons_succ])
          refine wpAnyH_take (i := 4) (oi := ⟨some 122, _, _, _, _, _⟩) (v := ?_) rfl (by kernel_rfl) (by kernel_rfl) (by kernel_rfl) (fun _ _ _ h => h) (Or.inl ⟨by rfl, ?_⟩) (by assumption) ?_
          rotate_left
          · intro w hSw
            (try dsimp only at hSw)
            go_simp
            (try with_reducible rfl)
          (try simp only [Act.put, List.setIfInBounds_toArray, List.set_cons_zero, List.set_cons_succ])
          refine wpAnyH_take (i := 5) (oi := ⟨some 123, _, _, _, _, _⟩) (v := ?_) rfl (by kernel_rfl) (by kernel_rfl) (by kernel_rfl) (fun _ _ _ h => h) (Or.inl ⟨by rfl, ?_⟩) (by assumption) ?_
          rotate_left
          · intro w hSw
            (try dsimp only at hSw)
            go_simp
            (try with_reducible rfl)
          (try simp only [Act.put, List.setIfInBounds_toArray, List.set_cons_zero, List.set_cons_succ])
          refine wpAnyH_take (i := 6) (oi := ⟨some 124, _, _, _, _, _⟩) (v := ?_) rfl (by kernel_rfl) (by kernel_rfl) (by kernel_rfl) (fun _ _ _ h => h) (Or.inl ⟨by rfl, ?_⟩) (by assumption) ?_
          rotate_left
          · intro w hSw
            (try dsimp only at hSw)
            go_simp
            (try with_reducible rfl)
          (try simp only [Act.put, List.setIfInBounds_toArray, List.set_cons_zero, List.set_cons_succ])
          refine wpAnyH_ready (rs := [3]) (by kernel_rfl) (by simp) ?_
          refine AllReadyH.cons (o := ⟨some 121, _, _, _, _, _⟩) rfl (fun K hK => ?_) ?_
          · go_simp
            (with_reducible refine (HUa.out _ (HB6.out.trans ((Below.refl _ _).drew.mono HB6.out.size))).mono ?_)
            rintro e w7 ⟨v7, rfl, ho7, hb7⟩
            have hd7 : Below w6.heap.size w6 w7 := (Below.refl _ w6).drew.trans hb7
            obtain ⟨a7, c7, rfl, _⟩ := row_shape ho7
            go_wp2_with fail
            refine hK.out _ _ ?_ (fun hHeld => ?_)
            · exact cell_next z3 _ hd7
            clear hK K
            (try simp only [Act.put, List.setIfInBounds_toArray, List.set_cons_zero, List.set_cons_succ])
            refine wpAnyH_ready (rs := [7]) (by kernel_rfl) (by simp) ?_
            refine AllReadyH.cons (o := ⟨some 125, _, _, _, _, _⟩) rfl (fun K hK => ?_) ?_
            · go_simp
              (with_reducible refine (HUb.out _ (HB6.out.trans (hd7.mono HB6.out.size))).mono ?_)
              rintro e w8 ⟨v8, rfl, ho8, hb8⟩
              have hd8 : Below w6.heap.size w6 w8 := hd7.trans (hb8.mono hd7.size)
              obtain ⟨a8, c8, rfl, _⟩ := row_shape ho8
              go_wp2_with fail
              refine hK.out _ _ ?_ (fun hHeld => ?_)
              · exact cell_next z3 _ hd8
              clear hK K
              (try simp only [Act.put, List.setIfInBounds_toArray, List.set_cons_zero, List.set_cons_succ])
              refine wpAnyH_take (i := 8) (oi := ⟨some 12, _, _, _, _, _⟩) (v := ?_) rfl (by kernel_rfl) (by kernel_rfl) (by kernel_rfl) (fun _ _ _ h => h) (Or.inl ⟨by rfl, ?_⟩) (by assumption) ?_
              rotate_left
              · intro w hSw
                (try dsimp only at hSw)
                go_simp
                (try with_reducible rfl)
              (try simp only [Act.put, List.setIfInBounds_toArray, List.set_cons_zero, List.set_cons_succ])
              refine wpAnyH_take (i := 9) (oi := ⟨some 13, _, _, _, _, _⟩) (v := ?_) rfl (by kernel_rfl) (by kernel_rfl) (by kernel_rfl) (fun _ _ _ h => h) (Or.inl ⟨by rfl, ?_⟩) (by assumption) ?_
              rotate_left
              · intro w hSw
                (try dsimp only at hSw)
                go_simp
                (try with_reducible rfl)
              (try simp only [Act.put, List.setIfInBounds_toArray, List.set_cons_zero, List.set_cons_succ])
              refine wpAnyH_done (by kernel_rfl) ?_ _
              go_wp2
              go_meet
              exact ⟨_, _, _, _, rfl, rfl, row_past ho7 hb8 (Nat.le_refl _), row_mono ho8 hd7.size, hd8⟩
            exact AllReadyH.nil
          exact AllReadyH.nil
        case rest =>
          obtain ⟨aa, ca, ab, cb, rfl, rfl, hoa, hob, hb7⟩ := hcut
          have HOa := Lib.hid hoa
          have HOb := Lib.hid hob
          have t0 := cell_next (cell_next q0 _ hb7)
          have t1 := cell_next (cell_next q1 _ hb7)
          have t2 := cell_next (cell_next q2 _ hb7)
          have t3 := cell_next (cell_next q3 _ hb7)
          have r2 := cell_next (cell_next z2 _ hb7)
          have r3 := cell_next (cell_next z3 _ hb7)
          have HB7 := Lib.hid (HB6.out.trans (hb7.mono HB6.out.size))
          have Bg := bnext_grow (Below.refl wc.heap.size wc)
          have HBg : Hid (∀ d os, Below wr.heap.size wr (Go.Sort.grow (redrawn wc d) os)) := Lib.hid fun d os => HB7.out.trans ((Bg d os).mono HB7.out.size)
          clear hb7 hoa hob
          go_upto_region 20 with (fail)
          refine wp_region_quiet_below (by kernel_rfl) (by kernel_rfl) ?_; (repeat (go_big_quiet_step ((first | (go_at_call 20; (with_reducible refine Calls.regrown_of (HRg.out _ (HBg.out _ _)))) | (go_at_call 19; (with_reducible refine Calls.regrown_of (HSg.out _ (HBg.out _ _)))))))); refine wpQuiet_nil ?_; rintro _ ⟨pq, rfl⟩
          go_upto_region 22 with (fail)
          refine gen_wp (fun w' => Below wc.heap.size wc w') (Bg _ _) ?_
          rintro w8 hb8
          have HOa8 := Lib.hid (row_past HOa.out hb8 (Nat.le_refl _))
          have HOb8 := Lib.hid (row_past HOb.out hb8 (Nat.le_refl _))
          have HB8 := Lib.hid (HB7.out.trans (hb8.mono HB7.out.size))
          clear hb8 t0 t1 t2 t3 r2 r3 Bg HBg
          go_wp2
          go_loopw [146] (fun i wx => ∃ j : Nat, j ≤ U.length ∧ i = .int .i64 j ∧ Below w8.heap.size w8 wx) (fun i _ => U.length - (intOf i).toNat)
          case atStart => exact ⟨0, Nat.zero_le _, rfl, Below.refl _ _⟩
          case round =>
            obtain ⟨j, hj, rfl, hbx⟩ := hrel
            by_cases hlj : j < U.length
            · obtain ⟨g1, rfl, f0⟩ := mrow_str (row_past HOa8.out hbx (Nat.le_refl _)) j hlj rfl
              obtain ⟨g2, rfl, f1⟩ := mrow_str (row_past HOb8.out hbx (Nat.le_refl _)) j hlj rfl
              have HBx := Lib.hid hbx
              generalize U[j] = x at *
              have hq := str_eq (rfl : x = x)
              clear hbx
              go_wp2_with fail
              go_quiet (fail)
              go_wp2
              go_roundw
              case rel => exact ⟨j + 1, by omega, by go_num, below_drewN HBx.out _⟩
              case measure => simp [intOf]; omega
            · have HBx := Lib.hid (HB8.out.trans (hbx.mono HB8.out.size))
              clear hbx
              go_wp2_with fail; (with_reducible refine (awake11 _).mono ?_); rintro e w9 ⟨rfl, hb9⟩
              go_wp2
              go_ret
              exact ⟨rfl, HB0.out.trans ((bnext (bnext HB4.out HBx.out) hb9).mono HB0.out.size)⟩
end Go.Proofs.Ytcbkjhbneigkaaa
