/- Chapter 11: Get. -/
import Derived.Test.YtcbkjhbneigkaaaYMm
import Derived.Test.YtcbkjhbneigkaaaYMu
import Derived.Test.YtcbkjhbneigkaaaYBaw
namespace Go.Proofs.Ytcbkjhbneigkaaa
open Go.RowKit
set_option linter.unusedVariables false
set_option linter.unusedSimpArgs false

/-- what is got -/
def mgot (M : List ME) (u : ByteArray) (at' : Int) : Value := if h : mget u at' M < M.length then entV M[mget u at' M] else ent0
def mgotB (M : List ME) (u : ByteArray) (at' : Int) : Bool := decide (mget u at' M < M.length)
theorem mgot_in {M : List ME} {u : ByteArray} {at' : Int} {e : ME} (h : mget u at' M < M.length) (he : M[mget u at' M] = e) : mgot M u at' = entV e ∧ mgotB M u at' = true := by
  unfold mgot mgotB
  rw [dif_pos h, decide_eq_true h, he]; exact ⟨rfl, rfl⟩
theorem mgot_no {M : List ME} {u : ByteArray} {at' : Int} (h : mget u at' M = M.length) : mgot M u at' = ent0 ∧ mgotB M u at' = false := by
  unfold mgot mgotB
  rw [dif_neg (by omega), decide_eq_false (by omega)]; exact ⟨rfl, rfl⟩
theorem min_is (a b : Int) : (if a < b then a else b) = min a b := by omega
theorem RB.mstring {w : World} {v : Value} {u : ByteArray} {s k : Int} (h : RB w v (keyBytes u.data.toList s k)) : (convert 72 9 v).run Try.prog w = .ok (.string (mkb u s k)) w := h.string
theorem mset4a {w : World} {t : Nat} {a b c d : Value} {e : TypeId} (h : w.heap[t]? = some (.cells #[a, b, c, d] e (0, 0))) (o : Obj) : (w.alloc o).heap[t]? = some (.cells #[a, b, c, d] e (0, 0)) := by
  rw [Below.heap_alloc _ _ _ (blk_lt h)]; exact h
theorem str_eq {u v : ByteArray} (h : u = v) : (u.toList == v.toList) = true := str_same h
theorem str_ne {u v : ByteArray} (h : u ≠ v) : (u.toList == v.toList) = false := str_diff h
/-- behind Ceil -/
theorem mgot_cases {M : List ME} {last : Int} (h : MInv M last) {u : ByteArray} {at' : Int} :
    (keyRight u (min at' 1099511627776) 3 = false ∧ mgot M u at' = ent0 ∧ mgotB M u at' = false) ∨
    (keyRight u (min at' 1099511627776) 3 = true ∧ ((mcut (mkb u (min at' 1099511627776) 3) M = M.length ∧ mgot M u at' = ent0 ∧ mgotB M u at' = false) ∨
    (∃ hc : mcut (mkb u (min at' 1099511627776) 3) M < M.length, ∃ e, M[mcut (mkb u (min at' 1099511627776) 3) M] = e ∧ MOk e ∧ ((e.u = u ∧ mgot M u at' = entV e ∧ mgotB M u at' = true) ∨ (e.u ≠ u ∧ mgot M u at' = ent0 ∧ mgotB M u at' = false))))) := by
  cases hr : keyRight u (min at' 1099511627776) 3 with
  | false => exact .inl ⟨rfl, mgot_no (seek_bad h hr)⟩
  | true =>
    refine .inr ⟨rfl, ?_⟩
    obtain ⟨h1, h2⟩ := seek_mget h hr
    have hle := mcut_le (mkb u (min at' 1099511627776) 3) M
    by_cases hc : mcut (mkb u (min at' 1099511627776) 3) M < M.length
    · right
      refine ⟨hc, _, rfl, h.ok _ (List.getElem_mem hc), ?_⟩
      by_cases hu : (M[mcut (mkb u (min at' 1099511627776) 3) M]).u = u
      · have hg := h1 hc hu
        have hlt : mget u at' M < M.length := by omega
        refine .inl ⟨hu, mgot_in hlt ?_⟩
        simp only [hg]
      · exact .inr ⟨hu, mgot_no (h2 (.inr ⟨hc, hu⟩))⟩
    · left
      have e : mcut (mkb u (min at' 1099511627776) 3) M = M.length := by omega
      exact ⟨e, mgot_no (h2 (.inl e))⟩
theorem mset4z {w : World} {t : Nat} {a b c d : Value} {e : TypeId} (h : w.heap[t]? = some (.cells #[a, b, c, d] e (0, 0))) (u s k v : Value) :
    ((((w.setCell ⟨t, 0, none⟩ u).setCell ⟨t, 1, none⟩ s).setCell ⟨t, 2, none⟩ k).setCell ⟨t, 3, none⟩ v).heap[t]? = some (.cells #[u, s, k, v] e (0, 0)) := by
  simp only [World.setCell, Array.getElem?_modify, if_true, h]; rfl
set_option maxRecDepth 100000 in
set_option maxHeartbeats 4000000 in
theorem TB.get {w : World} {B t p : Nat} {F : Nat → Prop} {M : List ME} {last : Int} (h : TB w B t p F M last) (hl : M.length ≤ 99999) (u : ByteArray) (at' : Int) (hu : u.size ≤ maxLen) (ha : -9223372036854775808 ≤ at') (ha2 : at' ≤ 9223372036854775807) :
    Calls Try.prog 11 #[.pointer (some ⟨t, 0, none⟩), .string u, .int .i64 at'] w fun e w' => e = .returned (.tuple #[mgot M u at', .bool (mgotB M u at')]) ∧ Below w.heap.size w w' := by
  have HT := Lib.hid h
  have htw := blk_lt h.box
  have hG := mgot_cases h.inv (u := u) (at' := at')
  clear h
  have hmm : (at' ≤ 1099511627776 ∧ min at' 1099511627776 = at') ∨ (1099511627776 < at' ∧ min at' 1099511627776 = 1099511627776) := by omega
  rcases hmm with ⟨hm, hmn⟩ | ⟨hm, hmn⟩
  all_goals
    rw [hmn] at hG
    clear hmn
    go_enter Try.func11, Try.ntmps11
    go_wp2_with fail; (with_reducible refine (seek_any _ _ _).mono ?_); rintro e w1 ⟨rfl, hb1⟩
    go_upto_region 2 with (fail)
    have hz1 := hb1.size
    simp at hz1
    refine gen_wp (fun w' => Below w.heap.size w w' ∧ w'.heap[w.heap.size]? = some (.cells #[.string ⟨#[]⟩, .int .i64 0, .int .i64 0, .string ⟨#[]⟩] 36 (0, 0)) ∧ w'.heap[w1.heap.size]? = some (.cells #[.string u, .int .i64 _, .int .i64 3] 34 (0, 0))) ⟨?_, ?_, heap_alloc_new w1 _⟩ ?_
    · exact (((Below.refl _ w).alloc (Nat.le_refl _) _).trans (hb1.mono (by simp))).alloc (by omega) _
    · rw [Below.heap_alloc _ _ _ (by omega), hb1.block _ (by simp)]; exact heap_alloc_new w _
    rintro w2 ⟨B2, b2, k2⟩
    obtain ⟨k0, k1, k3, _⟩ := mcell_three k2
    have hzq := blk_lt b2
    generalize w1.heap.size = kq at *
    clear hb1 hz1 k2
    rcases hG with ⟨hr, hg1, hg2⟩ | ⟨hr, hG⟩
    · have hk := keybytes_bad u _ 3 w2 hr
      have HK := Lib.hid hk
      have HG1 := Lib.hid hg1
      have HG2 := Lib.hid hg2
      clear hk hg1 hg2
      go_wp2_with fail; (with_reducible refine (HK.out).mono ?_); rintro e w3 ⟨rfl, hb3⟩
      have b3 := (hb3.block _ hzq).trans b2
      have B3 := B2.trans (hb3.mono B2.size)
      obtain ⟨e0, e1, e2, e3, ef⟩ := mcell_four b3
      have f0 := ef 0; have f1 := ef 1; have f2 := ef 2; have f3 := ef 3
      have hz3 := blk_lt b3
      obtain ⟨r0, r1, r2, r3, _⟩ := mcell_four (mset4z b3 (.string ⟨#[]⟩) (.int .i64 0) (.int .i64 0) (.string ⟨#[]⟩))
      clear hb3 b3 b2 ef
      go_wp2
      refine bodyPost_ret (v := .tuple #[ent0, .bool false]) (by simp [results, Try.results11, go_sem, r0, r1, r2, r3, ent0]) rfl ?_
      refine ⟨by rw [HG1.out, HG2.out], ?_⟩
      (repeat first | exact B3 | refine Below.drew ?_ | refine Below.alloc ?_ (by simp <;> omega) _ | refine Below.setCell ?_ (by simp <;> omega) _)
    · have hk := keybytes u _ 3 w2 hr
      have HK := Lib.hid hk
      clear hk
      go_wp2_with fail; (with_reducible refine (HK.out).mono ?_); rintro e w3 ⟨v3, rfl, ho3, hb3⟩
      have b3 := (hb3.block _ hzq).trans b2
      have B3 := B2.trans (hb3.mono B2.size)
      have hz3 := blk_lt b3
      have hT3 := HT.out.below B3
      obtain ⟨L, hL, hs⟩ := hT3.list
      have c3 := hT3.c0
      have hR := ob_reads ho3 (Below.refl _ _)
      clear hb3 b2 k0 k1 k3 HK hT3
      rcases hG with ⟨hc, hg1, hg2⟩ | ⟨hc, e, he, hok, hG⟩
      · have hcl := ceil_out (w := w3.drew) (hL.below (Below.refl _ w3).drew) hs (by omega) (mkb u _ 3) hc
        have HCl := Lib.hid hcl
        have HG1 := Lib.hid hg1
        have HG2 := Lib.hid hg2
        clear hL hs hcl hg1 hg2
        go_upto_region 5 with (fail)
        refine wp_region_held_drew (S := fun w' => w'.cell? ⟨t, 0, none⟩ = some (.pointer (some ⟨p, 0, none⟩)) ∧ RB w' v3 _) (by kernel_rfl) ⟨c3, hR⟩ (fun hHeld => ?_)
        refine wpAnyH_take (i := 0) (oi := ⟨some 28, _, _, _, _, _⟩) (v := ?_) rfl (by kernel_rfl) (by kernel_rfl) (by kernel_rfl) (fun _ _ _ h => h) (Or.inl ⟨by rfl, ?_⟩) (by assumption) ?_
        rotate_left
        · intro w hSw
          (try dsimp only at hSw)
          go_simp
          (try with_reducible rfl)
        (try simp only [Act.put, List.setIfInBounds_toArray, List.set_cons_zero, List.set_cons_succ])
        refine wpAnyH_take (i := 1) (oi := ⟨some 29, _, _, _, _, _⟩) (v := ?_) rfl (by kernel_rfl) (by kernel_rfl) (by kernel_rfl) (fun _ _ _ h => h) (Or.inl ⟨by rfl, ?_⟩) (by assumption) ?_
        rotate_left
        · intro w hSw
          (try dsimp only at hSw)
          go_simp
          (try with_reducible rfl)
        (try simp only [Act.put, List.setIfInBounds_toArray, List.set_cons_zero, List.set_cons_succ])
        refine wpAnyH_take (i := 2) (oi := ⟨some 30, _, _, _, _, _⟩) (v := ?_) rfl (by kernel_rfl) (by kernel_rfl) (by kernel_rfl) (fun _ _ _ h => h) (Or.inl ⟨by rfl, ?_⟩) (by assumption) ?_
        rotate_left
        · intro w hSw
          (try dsimp only at hSw)
          go_simp
          (try with_reducible rfl)
        (try simp only [Act.put, List.setIfInBounds_toArray, List.set_cons_zero, List.set_cons_succ])
        refine wpAnyH_take (i := 3) (oi := ⟨some 31, _, _, _, _, _⟩) (v := ?_) rfl (by kernel_rfl) (by kernel_rfl) (by kernel_rfl) (fun _ _ _ h => h) (Or.inl ⟨by rfl, ?_⟩) (by assumption) ?_
        rotate_left
        · intro w hSw
          (try dsimp only at hSw)
          go_simp
          (try with_reducible rfl)
        (try simp only [Act.put, List.setIfInBounds_toArray, List.set_cons_zero, List.set_cons_succ])
        refine wpAnyH_take (i := 4) (oi := ⟨some 32, _, _, _, _, _⟩) (v := ?_) rfl (by kernel_rfl) (by kernel_rfl) (by kernel_rfl) (fun _ _ _ h => h) (Or.inl ⟨by rfl, ?_⟩) (by assumption) ?_
        rotate_left
        · intro w hSw
          (try dsimp only at hSw)
          go_simp
          (try with_reducible rfl)
        (try simp only [Act.put, List.setIfInBounds_toArray, List.set_cons_zero, List.set_cons_succ])
        refine wpAnyH_take (i := 5) (oi := ⟨some 33, _, _, _, _, _⟩) (v := ?_) rfl (by kernel_rfl) (by kernel_rfl) (by kernel_rfl) (fun _ _ _ h => h) (Or.inl ⟨by rfl, ?_⟩) (by assumption) ?_
        rotate_left
        · intro w hSw
          (try dsimp only at hSw)
          have hst := hSw.2.mstring
          go_simp
          (try with_reducible rfl)
        (try simp only [Act.put, List.setIfInBounds_toArray, List.set_cons_zero, List.set_cons_succ])
        refine wpAnyH_ready (rs := [6]) (by kernel_rfl) (by simp) ?_
        refine AllReadyH.cons (o := ⟨some 34, _, _, _, _, _⟩) rfl (fun K hK => ?_) ?_
        · go_simp
          (with_reducible refine (HCl.out).mono ?_)
          rintro e w6 ⟨rfl, hb6⟩
          go_wp2_with fail
          have hd6 : Below w3.heap.size w3 w6 := (Below.refl _ w3).drew.trans hb6
          refine hK.out _ _ ?_ (fun hHeld => ?_)
          · exact ⟨(hd6.cell (p := ⟨t, 0, none⟩) (Nat.lt_of_lt_of_le htw B3.size)).trans c3, hR.below hd6⟩
          clear hK K
          (try simp only [Act.put, List.setIfInBounds_toArray, List.set_cons_zero, List.set_cons_succ])
          refine wpAnyH_take (i := 7) (oi := ⟨some 27, _, _, _, _, _⟩) (v := ?_) rfl (by kernel_rfl) (by kernel_rfl) (by kernel_rfl) (fun _ _ _ h => h) (Or.inl ⟨by rfl, ?_⟩) (by assumption) ?_
          rotate_left
          · intro w hSw
            (try dsimp only at hSw)
            go_simp
            (try with_reducible rfl)
          (try simp only [Act.put, List.setIfInBounds_toArray, List.set_cons_zero, List.set_cons_succ])
          refine wpAnyH_take (i := 8) (oi := ⟨some 35, _, _, _, _, _⟩) (v := ?_) rfl (by kernel_rfl) (by kernel_rfl) (by kernel_rfl) (fun _ _ _ h => h) (Or.inl ⟨by rfl, ?_⟩) (by assumption) ?_
          rotate_left
          · intro w hSw
            (try dsimp only at hSw)
            go_simp
            (try with_reducible rfl)
          (try simp only [Act.put, List.setIfInBounds_toArray, List.set_cons_zero, List.set_cons_succ])
          refine wpAnyH_take (i := 9) (oi := ⟨some 36, _, _, _, _, _⟩) (v := ?_) rfl (by kernel_rfl) (by kernel_rfl) (by kernel_rfl) (fun _ _ _ h => h) (Or.inl ⟨by rfl, ?_⟩) (by assumption) ?_
          rotate_left
          · intro w hSw
            (try dsimp only at hSw)
            go_simp
            (try with_reducible rfl)
          (try simp only [Act.put, List.setIfInBounds_toArray, List.set_cons_zero, List.set_cons_succ])
          refine wpAnyH_take (i := 10) (oi := ⟨some 37, _, _, _, _, _⟩) (v := ?_) rfl (by kernel_rfl) (by kernel_rfl) (by kernel_rfl) (fun _ _ _ h => h) (Or.inl ⟨by rfl, ?_⟩) (by assumption) ?_
          rotate_left
          · intro w hSw
            (try dsimp only at hSw)
            go_simp
            (try with_reducible rfl)
          (try simp only [Act.put, List.setIfInBounds_toArray, List.set_cons_zero, List.set_cons_succ])
          refine wpAnyH_take (i := 11) (oi := ⟨some 11, _, _, _, _, _⟩) (v := ?_) rfl (by kernel_rfl) (by kernel_rfl) (by kernel_rfl) (fun _ _ _ h => h) (Or.inl ⟨by rfl, ?_⟩) (by assumption) ?_
          rotate_left
          · intro w hSw
            (try dsimp only at hSw)
            go_simp
            (try with_reducible rfl)
          (try simp only [Act.put, List.setIfInBounds_toArray, List.set_cons_zero, List.set_cons_succ])
          refine wpAnyH_take (i := 12) (oi := ⟨some 12, _, _, _, _, _⟩) (v := ?_) rfl (by kernel_rfl) (by kernel_rfl) (by kernel_rfl) (fun _ _ _ h => h) (Or.inl ⟨by rfl, ?_⟩) (by assumption) ?_
          rotate_left
          · intro w hSw
            (try dsimp only at hSw)
            go_simp
            (try with_reducible rfl)
          (try simp only [Act.put, List.setIfInBounds_toArray, List.set_cons_zero, List.set_cons_succ])
          refine wpAnyH_take (i := 13) (oi := ⟨some 13, _, _, _, _, _⟩) (v := ?_) rfl (by kernel_rfl) (by kernel_rfl) (by kernel_rfl) (fun _ _ _ h => h) (Or.inl ⟨by rfl, ?_⟩) (by assumption) ?_
          rotate_left
          · intro w hSw
            (try dsimp only at hSw)
            go_simp
            (try with_reducible rfl)
          (try simp only [Act.put, List.setIfInBounds_toArray, List.set_cons_zero, List.set_cons_succ])
          refine wpAnyH_done (by kernel_rfl) ?_ _
          have b6 := (hd6.block _ hz3).trans b3
          have B6 := B3.trans (hd6.mono B3.size)
          obtain ⟨e0, e1, e2, e3, ef⟩ := mcell_four b6
          have f0 := ef 0; have f1 := ef 1; have f2 := ef 2; have f3 := ef 3
          have hz6 := blk_lt b6
          obtain ⟨r0, r1, r2, r3, _⟩ := mcell_four (mset4z b6 (.string ⟨#[]⟩) (.int .i64 0) (.int .i64 0) (.string ⟨#[]⟩))
          clear hb6 hd6 b3 hR ho3 hHeld b6 ef
          go_wp2
          refine bodyPost_ret (v := .tuple #[ent0, .bool false]) (by simp [results, Try.results11, go_sem, r0, r1, r2, r3, ent0]) rfl ?_
          refine ⟨by rw [HG1.out, HG2.out], ?_⟩
          (repeat first | exact B6 | refine Below.drew ?_ | refine Below.alloc ?_ (by simp <;> omega) _ | refine Below.setCell ?_ (by simp <;> omega) _)
        exact AllReadyH.nil
      · have hcl := ceil_in (w := w3.drew) (hL.below (Below.refl _ w3).drew) hs (by omega) (mkb u _ 3) hc
        rw [he] at hcl
        have hent := fun W => mentry hok.1 e.v W
        have HCl := Lib.hid hcl
        have HEn := Lib.hid hent
        clear hL hs hcl hent he hok
        obtain ⟨eu, es, ek, ev⟩ := e
        simp only at HCl HEn hG
        go_upto_region 5 with (fail)
        refine wp_region_held_drew (S := fun w' => w'.cell? ⟨t, 0, none⟩ = some (.pointer (some ⟨p, 0, none⟩)) ∧ RB w' v3 _) (by kernel_rfl) ⟨c3, hR⟩ (fun hHeld => ?_)
        refine wpAnyH_take (i := 0) (oi := ⟨some 28, _, _, _, _, _⟩) (v := ?_) rfl (by kernel_rfl) (by kernel_rfl) (by kernel_rfl) (fun _ _ _ h => h) (Or.inl ⟨by rfl, ?_⟩) (by assumption) ?_
        rotate_left
        · intro w hSw
          (try dsimp only at hSw)
          go_simp
          (try with_reducible rfl)
        (try simp only [Act.put, List.setIfInBounds_toArray, List.set_cons_zero, List.set_cons_succ])
        refine wpAnyH_take (i := 1) (oi := ⟨some 29, _, _, _, _, _⟩) (v := ?_) rfl (by kernel_rfl) (by kernel_rfl) (by kernel_rfl) (fun _ _ _ h => h) (Or.inl ⟨by rfl, ?_⟩) (by assumption) ?_
        rotate_left
        · intro w hSw
          (try dsimp only at hSw)
          go_simp
          (try with_reducible rfl)
        (try simp only [Act.put, List.setIfInBounds_toArray, List.set_cons_zero, List.set_cons_succ])
        refine wpAnyH_take (i := 2) (oi := ⟨some 30, _, _, _, _, _⟩) (v := ?_) rfl (by kernel_rfl) (by kernel_rfl) (by kernel_rfl) (fun _ _ _ h => h) (Or.inl ⟨by rfl, ?_⟩) (by assumption) ?_
        rotate_left
        · intro w hSw
          (try dsimp only at hSw)
          go_simp
          (try with_reducible rfl)
        (try simp only [Act.put, List.setIfInBounds_toArray, List.set_cons_zero, List.set_cons_succ])
        refine wpAnyH_take (i := 3) (oi := ⟨some 31, _, _, _, _, _⟩) (v := ?_) rfl (by kernel_rfl) (by kernel_rfl) (by kernel_rfl) (fun _ _ _ h => h) (Or.inl ⟨by rfl, ?_⟩) (by assumption) ?_
        rotate_left
        · intro w hSw
          (try dsimp only at hSw)
          go_simp
          (try with_reducible rfl)
        (try simp only [Act.put, List.setIfInBounds_toArray, List.set_cons_zero, List.set_cons_succ])
        refine wpAnyH_take (i := 4) (oi := ⟨some 32, _, _, _, _, _⟩) (v := ?_) rfl (by kernel_rfl) (by kernel_rfl) (by kernel_rfl) (fun _ _ _ h => h) (Or.inl ⟨by rfl, ?_⟩) (by assumption) ?_
        rotate_left
        · intro w hSw
          (try dsimp only at hSw)
          go_simp
          (try with_reducible rfl)
        (try simp only [Act.put, List.setIfInBounds_toArray, List.set_cons_zero, List.set_cons_succ])
        refine wpAnyH_take (i := 5) (oi := ⟨some 33, _, _, _, _, _⟩) (v := ?_) rfl (by kernel_rfl) (by kernel_rfl) (by kernel_rfl) (fun _ _ _ h => h) (Or.inl ⟨by rfl, ?_⟩) (by assumption) ?_
        rotate_left
        · intro w hSw
          (try dsimp only at hSw)
          have hst := hSw.2.mstring
          go_simp
          (try with_reducible rfl)
        (try simp only [Act.put, List.setIfInBounds_toArray, List.set_cons_zero, List.set_cons_succ])
        refine wpAnyH_ready (rs := [6]) (by kernel_rfl) (by simp) ?_
        refine AllReadyH.cons (o := ⟨some 34, _, _, _, _, _⟩) rfl (fun K hK => ?_) ?_
        · go_simp
          (with_reducible refine (HCl.out).mono ?_)
          rintro e w6 ⟨rfl, hb6⟩
          go_wp2_with fail
          have hd6 : Below w3.heap.size w3 w6 := (Below.refl _ w3).drew.trans hb6
          refine hK.out _ _ ?_ (fun hHeld => ?_)
          · exact ⟨(hd6.cell (p := ⟨t, 0, none⟩) (Nat.lt_of_lt_of_le htw B3.size)).trans c3, hR.below hd6⟩
          clear hK K
          (try simp only [Act.put, List.setIfInBounds_toArray, List.set_cons_zero, List.set_cons_succ])
          refine wpAnyH_take (i := 7) (oi := ⟨some 27, _, _, _, _, _⟩) (v := ?_) rfl (by kernel_rfl) (by kernel_rfl) (by kernel_rfl) (fun _ _ _ h => h) (Or.inl ⟨by rfl, ?_⟩) (by assumption) ?_
          rotate_left
          · intro w hSw
            (try dsimp only at hSw)
            go_simp
            (try with_reducible rfl)
          (try simp only [Act.put, List.setIfInBounds_toArray, List.set_cons_zero, List.set_cons_succ])
          refine wpAnyH_take (i := 8) (oi := ⟨some 35, _, _, _, _, _⟩) (v := ?_) rfl (by kernel_rfl) (by kernel_rfl) (by kernel_rfl) (fun _ _ _ h => h) (Or.inl ⟨by rfl, ?_⟩) (by assumption) ?_
          rotate_left
          · intro w hSw
            (try dsimp only at hSw)
            go_simp
            (try with_reducible rfl)
          (try simp only [Act.put, List.setIfInBounds_toArray, List.set_cons_zero, List.set_cons_succ])
          refine wpAnyH_take (i := 9) (oi := ⟨some 36, _, _, _, _, _⟩) (v := ?_) rfl (by kernel_rfl) (by kernel_rfl) (by kernel_rfl) (fun _ _ _ h => h) (Or.inl ⟨by rfl, ?_⟩) (by assumption) ?_
          rotate_left
          · intro w hSw
            (try dsimp only at hSw)
            go_simp
            (try with_reducible rfl)
          (try simp only [Act.put, List.setIfInBounds_toArray, List.set_cons_zero, List.set_cons_succ])
          refine wpAnyH_take (i := 10) (oi := ⟨some 37, _, _, _, _, _⟩) (v := ?_) rfl (by kernel_rfl) (by kernel_rfl) (by kernel_rfl) (fun _ _ _ h => h) (Or.inl ⟨by rfl, ?_⟩) (by assumption) ?_
          rotate_left
          · intro w hSw
            (try dsimp only at hSw)
            go_simp
            (try with_reducible rfl)
          (try simp only [Act.put, List.setIfInBounds_toArray, List.set_cons_zero, List.set_cons_succ])
          refine wpAnyH_take (i := 11) (oi := ⟨some 11, _, _, _, _, _⟩) (v := ?_) rfl (by kernel_rfl) (by kernel_rfl) (by kernel_rfl) (fun _ _ _ h => h) (Or.inl ⟨by rfl, ?_⟩) (by assumption) ?_
          rotate_left
          · intro w hSw
            (try dsimp only at hSw)
            go_simp
            (try with_reducible rfl)
          (try simp only [Act.put, List.setIfInBounds_toArray, List.set_cons_zero, List.set_cons_succ])
          refine wpAnyH_take (i := 12) (oi := ⟨some 12, _, _, _, _, _⟩) (v := ?_) rfl (by kernel_rfl) (by kernel_rfl) (by kernel_rfl) (fun _ _ _ h => h) (Or.inl ⟨by rfl, ?_⟩) (by assumption) ?_
          rotate_left
          · intro w hSw
            (try dsimp only at hSw)
            go_simp
            (try with_reducible rfl)
          (try simp only [Act.put, List.setIfInBounds_toArray, List.set_cons_zero, List.set_cons_succ])
          refine wpAnyH_take (i := 13) (oi := ⟨some 13, _, _, _, _, _⟩) (v := ?_) rfl (by kernel_rfl) (by kernel_rfl) (by kernel_rfl) (fun _ _ _ h => h) (Or.inl ⟨by rfl, ?_⟩) (by assumption) ?_
          rotate_left
          · intro w hSw
            (try dsimp only at hSw)
            go_simp
            (try with_reducible rfl)
          (try simp only [Act.put, List.setIfInBounds_toArray, List.set_cons_zero, List.set_cons_succ])
          refine wpAnyH_done (by kernel_rfl) ?_ _
          have b6 := (hd6.block _ hz3).trans b3
          have B6 := B3.trans (hd6.mono B3.size)
          clear hb6 hd6 b3 hR ho3 hHeld
          go_wp2_with fail; (with_reducible refine (HEn.out _).mono ?_); rintro e w7 ⟨rfl, hb7⟩
          have hz6 := blk_lt b6
          have b7 := (hb7.block _ hz6).trans b6
          have B7 := B6.trans (hb7.mono B6.size)
          obtain ⟨e0, e1, e2, e3, ef⟩ := mcell_four b7
          have f0 := ef 0; have f1 := ef 1; have f2 := ef 2; have f3 := ef 3
          have hz7 := blk_lt b7
          rcases hG with ⟨hu1, hg1, hg2⟩ | ⟨hu1, hg1, hg2⟩
          · have hq := str_eq hu1
            have HG1 := Lib.hid hg1
            have HG2 := Lib.hid hg2
            obtain ⟨r0, r1, r2, r3, _⟩ := mcell_four (mstored4 b7 (.string eu) (.int .i64 es) (.int .i64 ek) (.string ev) (.cells #[.string eu, .int .i64 es, .int .i64 ek, .string ev] 36))
            clear hb7 b7 ef hu1 hg1 hg2 b6
            go_wp2
            refine bodyPost_ret (v := .tuple #[.agg #[.string eu, .int .i64 es, .int .i64 ek, .string ev], .bool true]) (by simp [results, Try.results11, go_sem, r0, r1, r2, r3]) rfl ?_
            refine ⟨by rw [HG1.out, HG2.out]; rfl, ?_⟩
            (repeat first | exact B7 | refine Below.drew ?_ | refine Below.alloc ?_ (by simp <;> omega) _ | refine Below.setCell ?_ (by simp <;> omega) _)
          · have hq := str_ne hu1
            have HG1 := Lib.hid hg1
            have HG2 := Lib.hid hg2
            obtain ⟨r0, r1, r2, r3, _⟩ := mcell_four (mstored4 b7 (.string ⟨#[]⟩) (.int .i64 0) (.int .i64 0) (.string ⟨#[]⟩) (.cells #[.string eu, .int .i64 es, .int .i64 ek, .string ev] 36))
            clear hb7 b7 ef hu1 hg1 hg2 b6
            go_wp2
            refine bodyPost_ret (v := .tuple #[ent0, .bool false]) (by simp [results, Try.results11, go_sem, r0, r1, r2, r3, ent0]) rfl ?_
            refine ⟨by rw [HG1.out, HG2.out], ?_⟩
            (repeat first | exact B7 | refine Below.drew ?_ | refine Below.alloc ?_ (by simp <;> omega) _ | refine Below.setCell ?_ (by simp <;> omega) _)
        exact AllReadyH.nil
end Go.Proofs.Ytcbkjhbneigkaaa
