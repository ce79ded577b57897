/- reclog.Log: Replay. -/
import Derived.Test.YtkflingpogokcaaDoorYJb
import Derived.Test.YtkflingpogokcaaDoorYRl6
namespace Go.Proofs.YtkflingpogokcaaDoor
open Go.RowKit
set_option linter.unusedVariables false
set_option linter.unusedSimpArgs false

theorem RowR.past {W W' : World} {B : Nat} {u : Value} {xs : List RX} (h : RowR W B u xs) (hb : Below W.heap.size W W') : RowR W' B u xs :=
  ⟨row_past h.1 hb (Nat.le_refl _), fun x hx => ⟨(h.2 x hx).1.past hb (Nat.le_refl _), (h.2 x hx).2⟩⟩
theorem RowR.mono {W : World} {B C : Nat} {u : Value} {xs : List RX} (h : RowR W B u xs) (hC : C ≤ B) : RowR W C u xs :=
  ⟨row_mono h.1 hC, fun x hx => ⟨row_mono (h.2 x hx).1 hC, (h.2 x hx).2⟩⟩
theorem rxs_append (xs ys : List RX) : rxs (xs ++ ys) = rxs xs ++ rxs ys := by simp [rxs]
theorem RowR.app {W W' : World} {B : Nat} {u u' : Value} {xs ys : List RX} (h : RowR W B u xs) (hy : ∀ x ∈ ys, OB W B (.slice x.ao x.l.length x.c) x.l ∧ x.c ≤ maxLen) (ho : W'.ownsRow B 22 1 u' (xs.length + ys.length) (rxs xs ++ rxs ys)) (ha : App W W' u u') : RowR W' B u' (xs ++ ys) := by
  refine ⟨by rw [List.length_append, rxs_append]; exact ho, fun x hx => ?_⟩
  rw [List.mem_append] at hx
  rcases hx with hx | hx
  · exact ⟨(h.2 x hx).1.kept ha.grown (ob_row9 (h.2 x hx).1 h.1), (h.2 x hx).2⟩
  · exact ⟨(hy x hx).1.kept ha.grown (ob_row9 (hy x hx).1 h.1), (hy x hx).2⟩
theorem ScanIs.few {b : List UInt8} {L : List (List UInt8)} (h : ScanIs b L) : 5 * L.length ≤ b.length := by
  obtain ⟨_, r, hb, _⟩ := h
  have h1 := flR_len L
  have h2 := congrArg List.length hb
  rw [List.length_append] at h2
  have h3 : (flR L).length = (L.flatMap frB).length := rfl
  omega
theorem ScanIs.le {b : List UInt8} {L : List (List UInt8)} (h : ScanIs b L) : (flR L).length ≤ b.length ∧ ((flR L).length = b.length → flR L = b) := by
  obtain ⟨_, r, hb, _⟩ := h
  have h2 := congrArg List.length hb
  rw [List.length_append] at h2
  have h3 : (flR L).length = (L.flatMap frB).length := rfl
  refine ⟨by omega, fun e => ?_⟩
  have : r = [] := List.eq_nil_of_length_eq_zero (by omega)
  rw [hb, this, List.append_nil]; rfl
theorem zread_all {D : Dv} {k : Nat} (hd : D.down = false) (hk : k < D.n) (hA : k < D.A.length) : zread D (k : Nat) 0 (D.A[k].b.length : Nat) = (D.A[k].b, 0) := by
  rw [zread_in hd hk hA]
  unfold zrdb
  rw [if_neg (by omega)]
  simp
section
variable {w w' : World} {B q p : Nat} {v : Value} {G F : Nat → Prop} {D D' : Dv} {zs : List Nat}
set_option maxRecDepth 100000 in
set_option maxHeartbeats 8000000 in
theorem LI.replay {L : List (List (List UInt8))} (h : LI w B q p F D (List.range L.length)) (hT : Tab9 w) (hd : D.down = false) (hLn : L.length ≤ D.n)
    (hS : ∀ k (h : k < L.length) (h2 : k < D.A.length), ScanIs D.A[k].b L[k]) (hW : ∀ k (h : k < L.length) (h2 : k < D.A.length), k + 1 < L.length → flR L[k] = D.A[k].b) (wh : Bool) (hwh : wh = true ↔ ∀ k (h : k < L.length) (h2 : k < D.A.length), flR L[k] = D.A[k].b) :
    Calls Tryd.prog 29 #[.pointer (some ⟨q, 0, none⟩)] w fun e w' => ∃ (xs : List RX) (u : Value), e = .returned (.tuple #[u, .bool wh, .int .i64 0]) ∧ RowR w' w.heap.size u xs ∧ xs.map RX.l = L.flatten ∧ Below w.heap.size w w' := by
  have hok := h.ok
  have hlA := h.lenA
  obtain ⟨v, G, hL, hF⟩ := h
  have hn64 := hok.n2
  have hL64 : L.length ≤ 64 := by omega
  have hbl : ∀ k (h2 : k < D.A.length), D.A[k].b.length ≤ 65536 := fun k h2 => Nat.le_trans (hok.zs _ (List.getElem_mem h2)).len hok.s2
  have K0 := cell_next hL.c0
  have k1 := hL.c1
  obtain ⟨av, cv, rfl, hcv, _, hav⟩ := row_shape hL.row
  have hrl : (List.range L.length).length = L.length := List.length_range
  rw [hrl] at hav hcv
  have HC : Hid (∀ k (h : k < L.length), ∃ g, av = some ⟨g, 0, none⟩ ∧ ∀ W, Below w.heap.size w W → W.cell? ⟨g, k, none⟩ = some (.int .i64 (k : Nat))) := Lib.hid fun k hk => by
    obtain ⟨g, rfl, _⟩ := hav (by omega)
    refine ⟨g, rfl, fun W hb => ?_⟩
    refine cell_next ?_ _ hb
    rw [World.ownsRow.cellAt hL.row k (by omega), zvs_at _ k (by omega)]
    simp
  have HP : Hid (∀ k (h2 : k < D.A.length) W, Below w.heap.size w W → Calls Tryd.prog 27 #[.pointer (some ⟨p, 0, none⟩), .int .i64 (k : Nat)] W fun e w' => e = .returned (.int .i64 (D.A[k].b.length : Nat)) ∧ W = w') := Lib.hid fun k h2 W hW => by
    have := (hL.dev.below hW).pointer (k : Nat)
    rw [zpt_at k h2] at this
    exact this
  have HR : Hid (∀ k (h2 : k < D.A.length) W, Below w.heap.size w W → Calls Tryd.prog 46 #[.pointer (some ⟨p, 0, none⟩), .int .i64 (k : Nat), .int .i64 0, .int .i64 (D.A[k].b.length : Nat)] W fun e w' => ∃ v, e = .returned (.tuple #[v, .int .i64 0]) ∧ OB w' W.heap.size v D.A[k].b ∧ Below W.heap.size W w') := Lib.hid fun k h2 W hW => by
    have := (hL.dev.below hW).read (k : Nat) 0 (D.A[k].b.length : Nat)
    rw [zread_all hd (by omega) h2] at this
    exact this
  have HT := Lib.hid hT
  have HS := Lib.hid hS
  have HW := Lib.hid hW
  have HWH := Lib.hid hwh
  have HBL := Lib.hid hbl
  have hAn : L.length ≤ D.A.length := by omega
  obtain ⟨i0, hi, hz0, hz1, hz2⟩ := info_parts infoSl9
  clear hL hF hT hS hW hwh hbl hok hlA hav hi hz0 hz1 hz2
  rw [hrl] at k1
  clear hrl
  go_enter Tryd.func29, Tryd.ntmps29
  go_wp2
  go_loopw [2, 16] (fun u i wr => ∃ (k : Nat) (xs : List RX), k ≤ L.length ∧ i = .int .i64 k ∧ RowR wr w.heap.size u xs ∧ xs.map RX.l = (L.take k).flatten ∧ xs.length ≤ k * 14000 ∧ (∀ j (h : j < L.length) (h2 : j < D.A.length), j < k → flR L[j] = D.A[j].b) ∧ Below w.heap.size w wr) (fun _ i _ => L.length - (intOf i).toNat)
  case atStart => exact ⟨0, [], Nat.zero_le _, rfl, ⟨World.ownsRow_nil _ _ _ _, fun x hx => (nomatch hx)⟩, by simp, Nat.zero_le _, fun j _ _ h => absurd h (Nat.not_lt_zero _), Below.refl _ _⟩
  case round =>
    obtain ⟨k, xs, hk, rfl, hrow, hxl, hxn, hall, hbr⟩ := hrel
    have HRow := Lib.hid hrow
    have HXl := Lib.hid hxl
    have HAll := Lib.hid hall
    have HBr := Lib.hid hbr
    obtain ⟨ua, uc, rfl, huc⟩ := row_shape hrow.1
    clear hrow hxl hall huc
    by_cases hlt : k < L.length
    · have h2 : k < D.A.length := by omega
      obtain ⟨g, rfl, hcell⟩ := HC.out k hlt
      have kk := hcell _ hbr
      have k0 := K0 _ hbr
      have HPk := Lib.hid (HP.out k h2)
      have HRk := Lib.hid (HR.out k h2)
      have HSk := Lib.hid (HS.out k hlt h2)
      have HWk := Lib.hid (HW.out k hlt h2)
      have hbk := HBL.out k h2
      have Hfl : Hid (∀ j (h : j < L.length) (h3 : j < D.A.length), flR L[k] = D.A[k].b → j < k + 1 → flR L[j] = D.A[j].b) := Lib.hid fun j h h3 e hj => by
        by_cases e2 : j = k
        · subst e2; exact e
        · exact HAll.out j h h3 (by omega)
      have Hno : Hid (flR L[k] ≠ D.A[k].b → wh = false) := Lib.hid fun e => by
        cases hw : wh with
        | false => rfl
        | true => exact absurd (HWH.out.1 hw k hlt h2) e
      have Hfull : Hid (flR L[k] ≠ D.A[k].b → L.take (k + 1) = L) := Lib.hid fun e => by
        refine List.take_of_length_le ?_
        by_cases h3 : k + 1 < L.length
        · exact absurd (HWk.out h3) e
        · omega
      have Htk : Hid (L.take (k + 1) = L.take k ++ [L[k]]) := Lib.hid (List.take_succ_eq_append_getElem hlt)
      have hbn : (flR L[k]).length ≤ D.A[k].b.length := HSk.out.le.1
      have HEq := Lib.hid HSk.out.le.2
      generalize D.A[k].b = b at *
      generalize hLk : L[k] = K at *
      clear hLk kk
      have kk := hcell _ hbr
      clear hcell
      go_upto_region 4 with (fail)
      refine wp_region_held_drew (S := fun w' => w'.cell? ⟨q, 0, none⟩ = some (.pointer (some ⟨p, 0, none⟩))) (by kernel_rfl) k0 (fun hHeld => ?_)
      refine wpAnyH_take (i := 0) (oi := ⟨some 21, _, _, _, _, _⟩) (v := ?_) rfl (by kernel_rfl) (by kernel_rfl) (by kernel_rfl) (fun _ _ _ h => h) (Or.inl ⟨by rfl, ?_⟩) (by assumption) ?_
      rotate_left
      · intro w hSw
        (try dsimp only at hSw)
        go_simp
        (try with_reducible rfl)
      (try simp only [Act.put, List.setIfInBounds_toArray, List.set_cons_zero, List.set_cons_succ])
      refine wpAnyH_take (i := 1) (oi := ⟨some 22, _, _, _, _, _⟩) (v := ?_) rfl (by kernel_rfl) (by kernel_rfl) (by kernel_rfl) (fun _ _ _ h => h) (Or.inl ⟨by rfl, ?_⟩) (by assumption) ?_
      rotate_left
      · intro w hSw
        (try dsimp only at hSw)
        go_simp
        (try with_reducible rfl)
      (try simp only [Act.put, List.setIfInBounds_toArray, List.set_cons_zero, List.set_cons_succ])
      refine wpAnyH_take (i := 2) (oi := ⟨some 23, _, _, _, _, _⟩) (v := ?_) rfl (by kernel_rfl) (by kernel_rfl) (by kernel_rfl) (fun _ _ _ h => h) (Or.inl ⟨by rfl, ?_⟩) (by assumption) ?_
      rotate_left
      · intro w hSw
        (try dsimp only at hSw)
        go_simp
        (try with_reducible rfl)
      (try simp only [Act.put, List.setIfInBounds_toArray, List.set_cons_zero, List.set_cons_succ])
      refine wpAnyH_take (i := 3) (oi := ⟨some 24, _, _, _, _, _⟩) (v := ?_) rfl (by kernel_rfl) (by kernel_rfl) (by kernel_rfl) (fun _ _ _ h => h) (Or.inl ⟨by rfl, ?_⟩) (by assumption) ?_
      rotate_left
      · intro w hSw
        (try dsimp only at hSw)
        go_simp
        (try with_reducible rfl)
      (try simp only [Act.put, List.setIfInBounds_toArray, List.set_cons_zero, List.set_cons_succ])
      refine wpAnyH_take (i := 4) (oi := ⟨some 25, _, _, _, _, _⟩) (v := ?_) rfl (by kernel_rfl) (by kernel_rfl) (by kernel_rfl) (fun _ _ _ h => h) (Or.inl ⟨by rfl, ?_⟩) (by assumption) ?_
      rotate_left
      · intro w hSw
        (try dsimp only at hSw)
        go_simp
        (try with_reducible rfl)
      (try simp only [Act.put, List.setIfInBounds_toArray, List.set_cons_zero, List.set_cons_succ])
      refine wpAnyH_take (i := 5) (oi := ⟨some 26, _, _, _, _, _⟩) (v := ?_) rfl (by kernel_rfl) (by kernel_rfl) (by kernel_rfl) (fun _ _ _ h => h) (Or.inl ⟨by rfl, ?_⟩) (by assumption) ?_
      rotate_left
      · intro w hSw
        (try dsimp only at hSw)
        go_simp
        (try with_reducible rfl)
      (try simp only [Act.put, List.setIfInBounds_toArray, List.set_cons_zero, List.set_cons_succ])
      refine wpAnyH_take (i := 6) (oi := ⟨some 27, _, _, _, _, _⟩) (v := ?_) rfl (by kernel_rfl) (by kernel_rfl) (by kernel_rfl) (fun _ _ _ h => h) (Or.inl ⟨by rfl, ?_⟩) (by assumption) ?_
      rotate_left
      · intro w hSw
        (try dsimp only at hSw)
        go_simp
        (try with_reducible rfl)
      (try simp only [Act.put, List.setIfInBounds_toArray, List.set_cons_zero, List.set_cons_succ])
      refine wpAnyH_take (i := 7) (oi := ⟨some 28, _, _, _, _, _⟩) (v := ?_) rfl (by kernel_rfl) (by kernel_rfl) (by kernel_rfl) (fun _ _ _ h => h) (Or.inl ⟨by rfl, ?_⟩) (by assumption) ?_
      rotate_left
      · intro w hSw
        (try dsimp only at hSw)
        go_simp
        (try with_reducible rfl)
      (try simp only [Act.put, List.setIfInBounds_toArray, List.set_cons_zero, List.set_cons_succ])
      refine wpAnyH_take (i := 8) (oi := ⟨some 29, _, _, _, _, _⟩) (v := ?_) rfl (by kernel_rfl) (by kernel_rfl) (by kernel_rfl) (fun _ _ _ h => h) (Or.inl ⟨by rfl, ?_⟩) (by assumption) ?_
      rotate_left
      · intro w hSw
        (try dsimp only at hSw)
        go_simp
        (try with_reducible rfl)
      (try simp only [Act.put, List.setIfInBounds_toArray, List.set_cons_zero, List.set_cons_succ])
      refine wpAnyH_take (i := 9) (oi := ⟨some 30, _, _, _, _, _⟩) (v := ?_) rfl (by kernel_rfl) (by kernel_rfl) (by kernel_rfl) (fun _ _ _ h => h) (Or.inl ⟨by rfl, ?_⟩) (by assumption) ?_
      rotate_left
      · intro w hSw
        (try dsimp only at hSw)
        go_simp
        (try with_reducible rfl)
      (try simp only [Act.put, List.setIfInBounds_toArray, List.set_cons_zero, List.set_cons_succ])
      refine wpAnyH_ready (rs := [10]) (by kernel_rfl) (by simp) ?_
      refine AllReadyH.cons (o := ⟨some 31, _, _, _, _, _⟩) rfl (fun K hK => ?_) ?_
      · go_simp
        (with_reducible refine (HPk.out _ hbr.drew).mono ?_)
        rintro e w4 ⟨rfl, rfl⟩
        go_wp2_with fail
        refine hK.out _ _ ?_ (fun hHeld => ?_)
        · exact k0
        clear hK K
        (try simp only [Act.put, List.setIfInBounds_toArray, List.set_cons_zero, List.set_cons_succ])
        refine wpAnyH_ready (rs := [11]) (by kernel_rfl) (by simp) ?_
        refine AllReadyH.cons (o := ⟨some 32, _, _, _, _, _⟩) rfl (fun K hK => ?_) ?_
        · go_simp
          (with_reducible refine (HRk.out _ hbr.drew).mono ?_)
          rintro e w5 ⟨v5, rfl, ho5, hb5⟩
          go_wp2_with fail
          have hzr := hbr.size
          have hb5' : Below w.heap.size w w5 := hbr.drew.trans (hb5.mono hzr)
          have HO5 := Lib.hid ho5
          obtain ⟨a5, n5, c5, rfl, hm5⟩ := ho5.shape
          obtain rfl := ho5.len
          have hb5w : Below wr.heap.size wr w5 := (Below.refl _ wr).drew.trans hb5
          refine hK.out _ _ ?_ (fun hHeld => ?_)
          · exact K0 _ hb5'
          clear hK K
          (try simp only [Act.put, List.setIfInBounds_toArray, List.set_cons_zero, List.set_cons_succ])
          refine wpAnyH_take (i := 12) (oi := ⟨some 20, _, _, _, _, _⟩) (v := ?_) rfl (by kernel_rfl) (by kernel_rfl) (by kernel_rfl) (fun _ _ _ h => h) (Or.inl ⟨by rfl, ?_⟩) (by assumption) ?_
          rotate_left
          · intro w hSw
            (try dsimp only at hSw)
            go_simp
            (try with_reducible rfl)
          (try simp only [Act.put, List.setIfInBounds_toArray, List.set_cons_zero, List.set_cons_succ])
          refine wpAnyH_take (i := 13) (oi := ⟨some 33, _, _, _, _, _⟩) (v := ?_) rfl (by kernel_rfl) (by kernel_rfl) (by kernel_rfl) (fun _ _ _ h => h) (Or.inl ⟨by rfl, ?_⟩) (by assumption) ?_
          rotate_left
          · intro w hSw
            (try dsimp only at hSw)
            go_simp
            (try with_reducible rfl)
          (try simp only [Act.put, List.setIfInBounds_toArray, List.set_cons_zero, List.set_cons_succ])
          refine wpAnyH_take (i := 14) (oi := ⟨some 34, _, _, _, _, _⟩) (v := ?_) rfl (by kernel_rfl) (by kernel_rfl) (by kernel_rfl) (fun _ _ _ h => h) (Or.inl ⟨by rfl, ?_⟩) (by assumption) ?_
          rotate_left
          · intro w hSw
            (try dsimp only at hSw)
            go_simp
            (try with_reducible rfl)
          (try simp only [Act.put, List.setIfInBounds_toArray, List.set_cons_zero, List.set_cons_succ])
          refine wpAnyH_take (i := 15) (oi := ⟨some 7, _, _, _, _, _⟩) (v := ?_) rfl (by kernel_rfl) (by kernel_rfl) (by kernel_rfl) (fun _ _ _ h => h) (Or.inl ⟨by rfl, ?_⟩) (by assumption) ?_
          rotate_left
          · intro w hSw
            (try dsimp only at hSw)
            go_simp
            (try with_reducible rfl)
          (try simp only [Act.put, List.setIfInBounds_toArray, List.set_cons_zero, List.set_cons_succ])
          refine wpAnyH_take (i := 16) (oi := ⟨some 8, _, _, _, _, _⟩) (v := ?_) rfl (by kernel_rfl) (by kernel_rfl) (by kernel_rfl) (fun _ _ _ h => h) (Or.inl ⟨by rfl, ?_⟩) (by assumption) ?_
          rotate_left
          · intro w hSw
            (try dsimp only at hSw)
            go_simp
            (try with_reducible rfl)
          (try simp only [Act.put, List.setIfInBounds_toArray, List.set_cons_zero, List.set_cons_succ])
          refine wpAnyH_done (by kernel_rfl) ?_ _
          have HB5 := Lib.hid hb5'
          have HRow5 := Lib.hid (HRow.out.past hb5w)
          have HSc := Lib.hid (scan_any (HT.out.below hb5') ho5.reads (by omega))
          clear hb5 hb5' hb5w ho5 hHeld HRow HBr hbr HPk HRk k0 kk
          go_wp2_with fail; (with_reducible refine (HSc.out).mono ?_); rintro e w6 ⟨ys, u6, hS6, rfl, hrow6, hb6⟩
          have hys : ys.map RX.l = K := hS6.uniq HSk.out
          have hyn : ys.length ≤ 14000 := by
            have h5 := HSk.out.few
            rw [← hys, List.length_map] at h5
            omega
          rw [hys]
          have HB6 := Lib.hid (HB5.out.trans (hb6.mono HB5.out.size))
          have HRow6 := Lib.hid (HRow5.out.past hb6)
          have hz5 := HB5.out.size
          have HY6 := Lib.hid (hrow6.mono hz5)
          obtain ⟨ya, yc, rfl, _, hbss⟩ := hrow6.bss
          have HBS := Lib.hid hbss
          have HYl := Lib.hid hys
          have hz6 := HB6.out.size
          clear hS6 hrow6 hb6 hys hbss HSc HRow5
          have hlS : (ys.map fun x => (x.v, x.l)).length = ys.length := List.length_map _
          have HMap : Hid ((ys.map fun x => (x.v, x.l)).map (·.1) = rxs ys) := Lib.hid (by simp [rxs])
          have HZ : Hid (∀ v' w7, w7.ownsRow w.heap.size 22 1 v' (xs.length + ys.length) (rxs xs ++ rxs ys) → App w6 w7 (.slice ua xs.length uc) v' → RowR w7 w.heap.size v' (xs ++ ys) ∧ Below w.heap.size w w7) := Lib.hid fun v' w7 h1 h2 => ⟨HRow6.out.app HY6.out.2 h1 h2, HB6.out.grown h2.grown hz6 fun k hk => (World.ownsRow.lt HRow6.out.1 k hk).1⟩
          have HXs : Hid ((xs ++ ys).map RX.l = (L.take (k + 1)).flatten) := Lib.hid (by rw [List.map_append, HXl.out, HYl.out, Htk.out]; simp)
          have hxy : xs.length + ys.length ≤ 1000000000 := by omega
          have hxy2 : (xs ++ ys).length ≤ (k + 1) * 14000 := by rw [List.length_append]; omega
          by_cases hfe : flR K = b
          · have hge : ¬ ((flR K).length < b.length) := by rw [hfe]; exact Nat.lt_irrefl _
            have HFe := Lib.hid (fun j h h3 => Hfl.out j h h3 hfe)
            clear hfe Hno Hfull Hfl HEq
            generalize (flR K).length = fl at *
            go_wp2_with (at_builtin; go_loud (refine wpList_appS rfl (.tmp 43) (.tmp 44) rfl w.heap.size _ xs.length (rxs xs) rfl HRow6.out.1 ya yc (ys.map fun x => (x.v, x.l)) ?_ HBS.out ?_ hz6 ?_; (rw [hlS]; rfl); (rw [hlS]; exact hxy); rw [hlS, HMap.out]; intro v7 w7 ho7 ha7; have hz7 := HZ.out _ _ ho7 ha7; obtain ⟨a7, c7, rfl, _⟩ := row_shape hz7.1.1; have HZ7 := Lib.hid hz7; clear hz7 ho7 ha7))
            go_roundw
            case rel => exact ⟨k + 1, xs ++ ys, by omega, by go_num, by have h := HZ7.out.1; rw [List.length_append] at h; exact h, HXs.out, hxy2, HFe.out, HZ7.out.2⟩
            case measure => simp [intOf]; omega
          · have hlt2 : (flR K).length < b.length := by
              rcases Nat.lt_or_ge (flR K).length b.length with h | h
              · exact h
              · exact absurd (HEq.out (by omega)) hfe
            have hwf := Hno.out hfe
            have HFu := Lib.hid (Hfull.out hfe)
            subst hwf
            clear hfe Hno Hfull Hfl HEq
            generalize (flR K).length = fl at *
            go_wp2_with (at_builtin; go_loud (refine wpList_appS rfl (.tmp 43) (.tmp 44) rfl w.heap.size _ xs.length (rxs xs) rfl HRow6.out.1 ya yc (ys.map fun x => (x.v, x.l)) ?_ HBS.out ?_ hz6 ?_; (rw [hlS]; rfl); (rw [hlS]; exact hxy); rw [hlS, HMap.out]; intro v7 w7 ho7 ha7; have hz7 := HZ.out _ _ ho7 ha7; obtain ⟨a7, c7, rfl, _⟩ := row_shape hz7.1.1; have HZ7 := Lib.hid hz7; clear hz7 ho7 ha7))
            go_ret3
            exact ⟨xs ++ ys, _, rfl, by have h := HZ7.out.1; rw [List.length_append] at h; exact h, by rw [HXs.out, HFu.out], HZ7.out.2⟩
        · exact AllReadyH.nil
      · exact AllReadyH.nil
    · obtain rfl : k = L.length := by omega
      have hwt : wh = true := HWH.out.2 fun j h h2 => HAll.out j h h2 h
      subst hwt
      have HXs : Hid (xs.map RX.l = L.flatten) := Lib.hid (by rw [HXl.out, List.take_of_length_le (Nat.le_refl _)])
      go_wp2
      go_ret3
      exact ⟨xs, _, rfl, HRow.out, HXs.out, HBr.out⟩
end
end Go.Proofs.YtkflingpogokcaaDoor
