/- SkipPlays: its walk. -/
import Derived.Test.YthpafhimmhacfaaSkRg
import Derived.Test.YthpafhimmhacfaaSkRp
import Derived.Test.YthpafhimmhacfaaSkO5
import Derived.Test.YthpafhimmhacfaaSkW
import Derived.Deep.RegionLawGrows
import Derived.Deep.RegionLaw
import Derived.Deep.RegionHeld3
namespace Go.Proofs.Ythpafhimmhacfaa
open Go.RowKit
set_option linter.unusedVariables false
set_option linter.unusedSimpArgs false

set_option maxRecDepth 100000 in
set_option maxHeartbeats 8000000 in
theorem plays_walk {w : World} {a a' : Option Addr} {c c' : Nat} {l : List O3} {l' : List Int} (h : O5s w a l) (h' : IR w a' l') (hl : l.length ≤ maxLen) (hl' : l'.length ≤ maxLen) (hcc : l'.length ≤ c') :
    Calls Try.prog 8 #[.slice a l.length c, .slice a' l'.length c'] w fun e w' => e = .returned (.bool true) ∧ Below w.heap.size w w' := by
  unfold maxLen at hl hl'
  have H := Lib.hid h
  have H' := Lib.hid h'
  have Hne := Lib.hid (LI.new w)
  clear h h'
  go_enter Try.func8, Try.ntmps8
  go_wp2_with fail; (with_reducible refine (Hne.out).mono ?_); rintro e w1 ⟨p, F, rfl, hL, hb1⟩
  have HL := Lib.hid hL
  have HB1 := Lib.hid hb1
  clear hL hb1 Hne
  by_cases hlc : l.length ≤ 80 ∧ l'.length ≤ 30
  case neg =>
    have hlc2 : 80 < l.length ∨ (l.length ≤ 80 ∧ 30 < l'.length) := by omega
    clear hlc
    rcases hlc2 with hlc | ⟨hlc0, hlc⟩
    all_goals
      go_wp2_with fail; (with_reducible refine (awake05 _).mono ?_); rintro e w3 ⟨rfl, hb3⟩
      go_wp2
      go_ret
      exact ⟨rfl, bnext HB1.out hb3⟩
  obtain ⟨hlc1, hlc2⟩ := hlc
  go_upto_region 5 with (fail)
  refine gen_wp (fun w' => w'.heap[w1.heap.size]? = some (.cells #[.slice none 0 0] 59 (0, 0)) ∧ Below w1.heap.size w1 w') ?_ ?_
  · refine ⟨?_, ?_⟩
    · exact heap_alloc_new w1 _
    · (repeat first | exact Below.refl _ _ | refine Below.drew ?_ | refine Below.alloc ?_ (by simp <;> omega) _ | refine Below.setCell ?_ (by simp <;> omega) _)
  rintro w2 ⟨hbox, hb2⟩
  have hR0 : RfL w2 w1.heap.size w1.heap.size (.slice none 0 0) [] := ⟨hbox, World.ownsRow_nil _ _ _ _, Nat.le_refl _, by simp [Value.ownBlock]⟩
  have hL2 : LI w2 _ _ _ _ := HL.out.below hb2
  have HL2 := Lib.hid hL2
  have HR2 := Lib.hid hR0
  have HB2 := Lib.hid (bnext HB1.out hb2)
  have HD2 : Hid (∀ x, F x → ¬ Gq w1.heap.size (.slice none 0 0) x) := Lib.hid (by
    rintro x hx (rfl | e)
    · have := (HL.out.ge _ hx).2; omega
    · simp [Value.ownBlock] at e)
  have Hw1 : Hid (w.heap.size ≤ w1.heap.size) := Lib.hid HB1.out.size
  clear hL2 hR0 hbox hb2 HL HB1
  generalize hq : w1.heap.size = q at *
  clear hq
  go_wp2
  go_loopw [61] (fun i wr => ∃ (n : Nat) (L : List (E3 Int Int)) (F : Nat → Prop) (sv : Value), n ≤ l.length ∧ i = .int .i64 n ∧ L.length ≤ n ∧ LI wr w.heap.size p F L ∧ RfL wr q q sv L ∧ (∀ x, F x → ¬ Gq q sv x) ∧ Below w.heap.size w wr) (fun i _ => l.length - (intOf i).toNat)
  case atStart => exact ⟨0, [], F, _, Nat.zero_le _, rfl, Nat.le_refl _, HL2.out, HR2.out, HD2.out, HB2.out⟩
  case round =>
    clear HL2 HR2 HD2 HB2
    obtain ⟨n, L, F, sv, hn, rfl, hLn, hT, hU, hdj, hbr⟩ := hrel
    have HT := Lib.hid hT
    have HU := Lib.hid hU
    have HD := Lib.hid hdj
    clear hT hU hdj
    by_cases hlt : n < l.length
    · obtain ⟨b, off, rfl, f0, f1, f2⟩ := H.out.cells hbr n hlt
      have hok := H.out.2 _ (List.getElem_mem hlt)
      generalize l[n] = x at *
      go_upto_region 8 with (fail)
      refine gen_wp (fun w' => w'.cell? ⟨wr.heap.size, 0, none⟩ = some (.int .i64 x.k) ∧ w'.cell? ⟨wr.heap.size, 1, none⟩ = some (.int .i64 x.v) ∧ w'.cell? ⟨wr.heap.size, 2, none⟩ = some (.int .i64 x.h) ∧ Below wr.heap.size wr w') ?_ ?_
      · refine ⟨?_, ?_, ?_, ?_⟩
        · go_simp
        · go_simp
        · go_simp
        · (repeat first | exact Below.refl _ _ | refine Below.drew ?_ | refine Below.alloc ?_ (by simp <;> omega) _ | refine Below.setCell ?_ (by simp <;> omega) _)
      rintro w4 ⟨g0, g1, g2, hb4⟩
      have hT4 : LI w4 _ _ _ _ := HT.out.below hb4
      have HT4 := Lib.hid hT4
      have hU4 := HU.out.below hb4
      have HU4 := Lib.hid hU4
      have HB4 := Lib.hid (bnext hbr hb4)
      have hqb : wr.heap.size < w4.heap.size := World.block_lt_of_cell? w4 _ g0
      have hFb : ∀ y, F y → y < wr.heap.size := fun y hy => (HT.out.ge y hy).2
      have hGb : ∀ y, Gq q sv y → y < wr.heap.size := fun y hy => (HU.out.ge y hy).2
      have HFb := Lib.hid hFb
      have HGb := Lib.hid hGb
      clear hT4 hU4 hFb hGb hb4 HT HU hbr f0 f1 f2
      obtain ⟨xk, xv, xh⟩ := x
      simp only at g0 g1 g2 hok
      generalize wr.heap.size = bq at *
      by_cases hht : 1 ≤ xh ∧ xh ≤ 12
      case neg =>
        have hx2 : xh < 1 ∨ (1 ≤ xh ∧ 12 < xh) := by omega
        have Hpb := Lib.hid (put_bad_ii w4 p xk xv xh (by omega))
        clear hht
        rcases hx2 with hx | ⟨hx0, hx⟩
        all_goals
          go_wp2_with fail; (with_reducible refine (Hpb.out).mono ?_); rintro e w5 ⟨rfl, rfl⟩
          go_wp2
          go_roundw
          case rel => exact ⟨n + 1, L, F, sv, by omega, by go_num, by omega, HT4.out, HU4.out, HD.out, HB4.out⟩
          case measure => simp [intOf]; omega
      obtain ⟨m, rfl⟩ := Int.eq_ofNat_of_zero_le (show 0 ≤ xh by omega)
      have hput := LI.put HT4.out (by omega) xk xv m (by omega) (by omega)
      have Hput := Lib.hid hput
      clear hput
      go_wp2_with fail; (with_reducible refine (Hput.out).mono ?_); rintro e w5 ⟨rfl, ⟨F5, hL5, hF5⟩, hch, hb5⟩
      have hlen := putE_len_le (lt := ilt) L xk xv m
      have hU5 : RfL w5 q q sv L := HU4.out.chg hch HD.out
      have hU5d : RfL w5.drew q q sv L := hU5.below (Below.refl _ w5).drew
      have HF5 : Hid (∀ y, F5 y → ¬ Gq q sv y) := Lib.hid fun y hy hg => by
        rcases hF5 y hy with h | h
        · exact HD.out y h hg
        · have := HGb.out y hg; omega
      have HUge : Hid (∀ y, sv.ownBlock = some y → q ≤ y) := Lib.hid fun y hy => (hU5.ge y (.inr hy)).1
      have hrp := rput hU5d HT4.out.rise (by omega) xk xv m
      have hbw5 : ∀ j, w5.cell? ⟨bq, j, none⟩ = w4.cell? ⟨bq, j, none⟩ := fun j => cell_blk05 (hch.block bq hqb fun e => by have := HFb.out _ e; omega)
      rw [← hbw5] at g0 g1 g2
      have hbq5 : bq < w5.heap.size := Nat.lt_of_lt_of_le hqb hch.size
      have hd0 : w5.drew.cell? ⟨bq, 0, none⟩ = some (.int .i64 xk) := g0
      have hd1 : w5.drew.cell? ⟨bq, 1, none⟩ = some (.int .i64 xv) := g1
      have hd2 : w5.drew.cell? ⟨bq, 2, none⟩ = some (.int .i64 m) := g2
      generalize putE ilt L xk xv m = L5 at *
      generalize (!hI L xk) = fr at *
      have HL5 := Lib.hid hL5
      have Hrp := Lib.hid hrp
      have HB5 : Hid (Below w.heap.size w w5) := Lib.hid (HB4.out.trans hb5)
      clear hL5 hF5 hch hb5 hrp hU5 hU5d hbw5 HT4 HU4 HFb HB4 Hput
      obtain ⟨hm1, hm2⟩ := hht
      go_upto_region 12 with (fail)
      go_cut [112] from 89 to 112 (fun t wx => t = .bool false ∧ ∃ sv', LI wx w.heap.size p F5 L5 ∧ RfL wx q q sv' L5 ∧ (∀ x, F5 x → ¬ Gq q sv' x) ∧ Below w.heap.size w wx)
      case first =>
        have hcq : ∀ sv6 W, RfL W q q sv6 L5 → ∃ ao6 c6, sv6 = .slice ao6 L5.length c6 ∧ W.cell? ⟨q, 0, none⟩ = some (.slice ao6 L5.length c6) := fun sv6 W h => by
          obtain ⟨ao, c, e, _, _, h0⟩ := h.shape
          exact ⟨ao, c, e, h0⟩
        have HCq := Lib.hid hcq
        have HcB : Hid (∀ W, Chg (Gq q sv) w5.drew W → ∀ j, W.cell? ⟨bq, j, none⟩ = w5.drew.cell? ⟨bq, j, none⟩) := Lib.hid fun W hc j => cell_blk05 (hc.block bq hbq5 fun e => by have := HGb.out _ e; omega)
        have hL5l : L5.length ≤ 999999 := by omega
        clear g0 g1 g2 hcq
        refine wp_region_held_drew (S := fun w' => w'.cell? ⟨bq, 0, none⟩ = some (.int .i64 xk) ∧ w'.cell? ⟨bq, 1, none⟩ = some (.int .i64 xv) ∧ w'.cell? ⟨bq, 2, none⟩ = some (.int .i64 m)) (by kernel_rfl) ?_ (fun hHeld => ?_)
        · exact ⟨hd0, hd1, hd2⟩
        refine wpAnyH_take (i := 0) (oi := ⟨some 89, _, _, _, _, _⟩) (v := ?_) rfl (by kernel_rfl) (by kernel_rfl) (by kernel_rfl) (fun _ _ _ h => h) (Or.inl ⟨by rfl, ?_⟩) (by assumption) ?_
        rotate_left
        · intro w hSw
          (try dsimp only at hSw)
          go_simp
          (try with_reducible rfl)
        (try simp only [Act.put, List.setIfInBounds_toArray, List.set_cons_zero, List.set_cons_succ])
        refine wpAnyH_take (i := 1) (oi := ⟨some 90, _, _, _, _, _⟩) (v := ?_) rfl (by kernel_rfl) (by kernel_rfl) (by kernel_rfl) (fun _ _ _ h => h) (Or.inl ⟨by rfl, ?_⟩) (by assumption) ?_
        rotate_left
        · intro w hSw
          (try dsimp only at hSw)
          go_simp
          (try with_reducible rfl)
        (try simp only [Act.put, List.setIfInBounds_toArray, List.set_cons_zero, List.set_cons_succ])
        refine wpAnyH_take (i := 2) (oi := ⟨some 91, _, _, _, _, _⟩) (v := ?_) rfl (by kernel_rfl) (by kernel_rfl) (by kernel_rfl) (fun _ _ _ h => h) (Or.inl ⟨by rfl, ?_⟩) (by assumption) ?_
        rotate_left
        · intro w hSw
          (try dsimp only at hSw)
          go_simp
          (try with_reducible rfl)
        (try simp only [Act.put, List.setIfInBounds_toArray, List.set_cons_zero, List.set_cons_succ])
        refine wpAnyH_take (i := 3) (oi := ⟨some 92, _, _, _, _, _⟩) (v := ?_) rfl (by kernel_rfl) (by kernel_rfl) (by kernel_rfl) (fun _ _ _ h => h) (Or.inl ⟨by rfl, ?_⟩) (by assumption) ?_
        rotate_left
        · intro w hSw
          (try dsimp only at hSw)
          go_simp
          (try with_reducible rfl)
        (try simp only [Act.put, List.setIfInBounds_toArray, List.set_cons_zero, List.set_cons_succ])
        refine wpAnyH_take (i := 4) (oi := ⟨some 93, _, _, _, _, _⟩) (v := ?_) rfl (by kernel_rfl) (by kernel_rfl) (by kernel_rfl) (fun _ _ _ h => h) (Or.inl ⟨by rfl, ?_⟩) (by assumption) ?_
        rotate_left
        · intro w hSw
          (try dsimp only at hSw)
          go_simp
          (try with_reducible rfl)
        (try simp only [Act.put, List.setIfInBounds_toArray, List.set_cons_zero, List.set_cons_succ])
        refine wpAnyH_take (i := 5) (oi := ⟨some 94, _, _, _, _, _⟩) (v := ?_) rfl (by kernel_rfl) (by kernel_rfl) (by kernel_rfl) (fun _ _ _ h => h) (Or.inl ⟨by rfl, ?_⟩) (by assumption) ?_
        rotate_left
        · intro w hSw
          (try dsimp only at hSw)
          go_simp
          (try with_reducible rfl)
        (try simp only [Act.put, List.setIfInBounds_toArray, List.set_cons_zero, List.set_cons_succ])
        refine wpAnyH_take (i := 6) (oi := ⟨some 95, _, _, _, _, _⟩) (v := ?_) rfl (by kernel_rfl) (by kernel_rfl) (by kernel_rfl) (fun _ _ _ h => h) (Or.inl ⟨by rfl, ?_⟩) (by assumption) ?_
        rotate_left
        · intro w hSw
          (try dsimp only at hSw)
          go_simp
          (try with_reducible rfl)
        (try simp only [Act.put, List.setIfInBounds_toArray, List.set_cons_zero, List.set_cons_succ])
        refine wpAnyH_take (i := 7) (oi := ⟨some 96, _, _, _, _, _⟩) (v := ?_) rfl (by kernel_rfl) (by kernel_rfl) (by kernel_rfl) (fun _ _ _ h => h) (Or.inl ⟨by rfl, ?_⟩) (by assumption) ?_
        rotate_left
        · intro w hSw
          (try dsimp only at hSw)
          go_simp
          (try with_reducible rfl)
        (try simp only [Act.put, List.setIfInBounds_toArray, List.set_cons_zero, List.set_cons_succ])
        refine wpAnyH_take (i := 8) (oi := ⟨some 97, _, _, _, _, _⟩) (v := ?_) rfl (by kernel_rfl) (by kernel_rfl) (by kernel_rfl) (fun _ _ _ h => h) (Or.inl ⟨by rfl, ?_⟩) (by assumption) ?_
        rotate_left
        · intro w hSw
          (try dsimp only at hSw)
          go_simp
          (try with_reducible rfl)
        (try simp only [Act.put, List.setIfInBounds_toArray, List.set_cons_zero, List.set_cons_succ])
        refine wpAnyH_take (i := 9) (oi := ⟨some 98, _, _, _, _, _⟩) (v := ?_) rfl (by kernel_rfl) (by kernel_rfl) (by kernel_rfl) (fun _ _ _ h => h) (Or.inl ⟨by rfl, ?_⟩) (by assumption) ?_
        rotate_left
        · intro w hSw
          (try dsimp only at hSw)
          go_simp
          (try with_reducible rfl)
        (try simp only [Act.put, List.setIfInBounds_toArray, List.set_cons_zero, List.set_cons_succ])
        refine wpAnyH_take (i := 10) (oi := ⟨some 99, _, _, _, _, _⟩) (v := ?_) rfl (by kernel_rfl) (by kernel_rfl) (by kernel_rfl) (fun _ _ _ h => h) (Or.inl ⟨by rfl, ?_⟩) (by assumption) ?_
        rotate_left
        · intro w hSw
          (try dsimp only at hSw)
          go_simp
          (try with_reducible rfl)
        (try simp only [Act.put, List.setIfInBounds_toArray, List.set_cons_zero, List.set_cons_succ])
        refine wpAnyH_ready (rs := [11]) (by kernel_rfl) (by simp) ?_
        refine AllReadyH.cons (o := ⟨some 100, _, _, _, _, _⟩) rfl (fun K hK => ?_) ?_
        · go_simp
          (with_reducible refine (Hrp.out).mono ?_)
          rintro e w6 ⟨rfl, sv6, hR6, hc6, hg6⟩
          have HR6 := Lib.hid hR6
          have HG6 := Lib.hid hg6
          have HC6 := Lib.hid hc6
          obtain ⟨ao6, c6, rfl, hq6⟩ := HCq.out _ _ hR6
          have hL6 : LI w6 w.heap.size p F5 L5 := (HL5.out.below (Below.refl _ w5).drew).chg hc6 (fun y hy hg => HF5.out y hy hg)
          have HL6 := Lib.hid hL6
          have Hlen6 := Lib.hid (LI.len hL6 hL5l)
          have he0 := (HcB.out _ hc6 0).trans hd0
          have he1 := (HcB.out _ hc6 1).trans hd1
          have he2 := (HcB.out _ hc6 2).trans hd2
          clear hR6 hc6 hg6 hL6 hd0 hd1 hd2
          go_wp2_with fail
          refine hK.out _ _ ?_ (fun hHeld => ?_)
          · exact ⟨he0, he1, he2⟩
          clear hK K
          (try simp only [Act.put, List.setIfInBounds_toArray, List.set_cons_zero, List.set_cons_succ])
          refine wpAnyH_take (i := 12) (oi := ⟨some 101, _, _, _, _, _⟩) (v := ?_) rfl (by kernel_rfl) (by kernel_rfl) (by kernel_rfl) (fun _ _ _ h => h) (Or.inl ⟨by rfl, ?_⟩) (by assumption) ?_
          rotate_left
          · intro w hSw
            (try dsimp only at hSw)
            go_simp
            (try with_reducible rfl)
          (try simp only [Act.put, List.setIfInBounds_toArray, List.set_cons_zero, List.set_cons_succ])
          refine wpAnyH_take (i := 13) (oi := ⟨some 102, _, _, _, _, _⟩) (v := ?_) rfl (by kernel_rfl) (by kernel_rfl) (by kernel_rfl) (fun _ _ _ h => h) (Or.inl ⟨by rfl, ?_⟩) (by assumption) ?_
          rotate_left
          · intro w hSw
            (try dsimp only at hSw)
            go_simp
            (try with_reducible rfl)
          (try simp only [Act.put, List.setIfInBounds_toArray, List.set_cons_zero, List.set_cons_succ])
          refine wpAnyH_take (i := 14) (oi := ⟨some 103, _, _, _, _, _⟩) (v := ?_) rfl (by kernel_rfl) (by kernel_rfl) (by kernel_rfl) (fun _ _ _ h => h) (Or.inl ⟨by rfl, ?_⟩) (by assumption) ?_
          rotate_left
          · intro w hSw
            (try dsimp only at hSw)
            go_simp
            (try with_reducible rfl)
          (try simp only [Act.put, List.setIfInBounds_toArray, List.set_cons_zero, List.set_cons_succ])
          refine wpAnyH_take (i := 15) (oi := ⟨some 104, _, _, _, _, _⟩) (v := ?_) rfl (by kernel_rfl) (by kernel_rfl) (by kernel_rfl) (fun _ _ _ h => h) (Or.inl ⟨by rfl, ?_⟩) (by assumption) ?_
          rotate_left
          · intro w hSw
            (try dsimp only at hSw)
            go_simp
            (try with_reducible rfl)
          (try simp only [Act.put, List.setIfInBounds_toArray, List.set_cons_zero, List.set_cons_succ])
          refine wpAnyH_take (i := 17) (oi := ⟨some 106, _, _, _, _, _⟩) (v := ?_) rfl (by kernel_rfl) (by kernel_rfl) (by kernel_rfl) (fun _ _ _ h => h) (Or.inl ⟨by rfl, ?_⟩) (by assumption) ?_
          rotate_left
          · intro w hSw
            (try dsimp only at hSw)
            go_simp
            (try with_reducible rfl)
          (try simp only [Act.put, List.setIfInBounds_toArray, List.set_cons_zero, List.set_cons_succ])
          refine wpAnyH_take (i := 18) (oi := ⟨some 107, _, _, _, _, _⟩) (v := ?_) rfl (by kernel_rfl) (by kernel_rfl) (by kernel_rfl) (fun _ _ _ h => h) (Or.inl ⟨by rfl, ?_⟩) (by assumption) ?_
          rotate_left
          · intro w hSw
            (try dsimp only at hSw)
            go_simp
            (try with_reducible rfl)
          (try simp only [Act.put, List.setIfInBounds_toArray, List.set_cons_zero, List.set_cons_succ])
          refine wpAnyH_take (i := 19) (oi := ⟨some 108, _, _, _, _, _⟩) (v := ?_) rfl (by kernel_rfl) (by kernel_rfl) (by kernel_rfl) (fun _ _ _ h => h) (Or.inl ⟨by rfl, ?_⟩) (by assumption) ?_
          rotate_left
          · intro w hSw
            (try dsimp only at hSw)
            go_simp
            (try with_reducible rfl)
          (try simp only [Act.put, List.setIfInBounds_toArray, List.set_cons_zero, List.set_cons_succ])
          refine wpAnyH_ready (rs := [16, 20]) (by kernel_rfl) (by simp) ?_
          refine AllReadyH.cons (o := ⟨some 105, _, _, _, _, _⟩) rfl (fun K hK => ?_) ?_
          · go_simp
            (with_reducible refine (Hlen6.out).mono ?_)
            rintro e w7 ⟨rfl, rfl⟩
            go_wp2_with fail
            refine hK.out _ _ ?_ (fun hHeld => ?_)
            · exact ⟨he0, he1, he2⟩
            clear hK K
            (try simp only [Act.put, List.setIfInBounds_toArray, List.set_cons_zero, List.set_cons_succ])
            refine wpAnyH_ready (rs := [20]) (by kernel_rfl) (by simp) ?_
            refine AllReadyH.cons (o := ⟨some 109, _, _, _, _, _⟩) rfl (fun K hK => ?_) ?_
            · go_simp
              refine hK.out _ _ ?_ (fun hHeld => ?_)
              · exact ⟨he0, he1, he2⟩
              clear hK K
              (try simp only [Act.put, List.setIfInBounds_toArray, List.set_cons_zero, List.set_cons_succ])
              refine wpAnyH_take (i := 21) (oi := ⟨some 110, _, _, _, _, _⟩) (v := ?_) rfl (by kernel_rfl) (by kernel_rfl) (by kernel_rfl) (fun _ _ _ h => h) (Or.inl ⟨by rfl, ?_⟩) (by assumption) ?_
              rotate_left
              · intro w hSw
                (try dsimp only at hSw)
                go_simp
                (try with_reducible rfl)
              (try simp only [Act.put, List.setIfInBounds_toArray, List.set_cons_zero, List.set_cons_succ])
              refine wpAnyH_take (i := 22) (oi := ⟨some 111, _, _, _, _, _⟩) (v := ?_) rfl (by kernel_rfl) (by kernel_rfl) (by kernel_rfl) (fun _ _ _ h => h) (Or.inl ⟨by rfl, ?_⟩) (by assumption) ?_
              rotate_left
              · intro w hSw
                (try dsimp only at hSw)
                go_simp
                (try with_reducible rfl)
              (try simp only [Act.put, List.setIfInBounds_toArray, List.set_cons_zero, List.set_cons_succ])
              refine wpAnyH_take (i := 23) (oi := ⟨some 112, _, _, _, _, _⟩) (v := ?_) rfl (by kernel_rfl) (by kernel_rfl) (by kernel_rfl) (fun _ _ _ h => h) (Or.inl ⟨by rfl, ?_⟩) (by assumption) ?_
              rotate_left
              · intro w hSw
                (try dsimp only at hSw)
                go_simp
                (try with_reducible rfl)
              (try simp only [Act.put, List.setIfInBounds_toArray, List.set_cons_zero, List.set_cons_succ])
              refine wpAnyH_done (by kernel_rfl) ?_ _
              go_wp2_with fail
              go_meet
              exact ⟨rfl, _, HL6.out, HR6.out, fun x hx hg => by
                rcases HG6.out x hg with h | h
                · exact HF5.out x hx h
                · have := (HL5.out.ge x hx).2; have h : w5.heap.size ≤ x := h; omega, HB5.out.drew.trans (HC6.out.below (fun y hy => by rcases hy with rfl | hy; exact Hw1.out; exact Nat.le_trans Hw1.out (HUge.out y hy)) HB5.out.size)⟩
            · exact AllReadyH.nil
          refine AllReadyH.cons (o := ⟨some 109, _, _, _, _, _⟩) rfl (fun K hK => ?_) ?_
          · go_simp
            refine hK.out _ _ ?_ (fun hHeld => ?_)
            · exact ⟨he0, he1, he2⟩
            clear hK K
            (try simp only [Act.put, List.setIfInBounds_toArray, List.set_cons_zero, List.set_cons_succ])
            refine wpAnyH_take (i := 21) (oi := ⟨some 110, _, _, _, _, _⟩) (v := ?_) rfl (by kernel_rfl) (by kernel_rfl) (by kernel_rfl) (fun _ _ _ h => h) (Or.inl ⟨by rfl, ?_⟩) (by assumption) ?_
            rotate_left
            · intro w hSw
              (try dsimp only at hSw)
              go_simp
              (try with_reducible rfl)
            (try simp only [Act.put, List.setIfInBounds_toArray, List.set_cons_zero, List.set_cons_succ])
            refine wpAnyH_ready (rs := [16]) (by kernel_rfl) (by simp) ?_
            refine AllReadyH.cons (o := ⟨some 105, _, _, _, _, _⟩) rfl (fun K hK => ?_) ?_
            · go_simp
              (with_reducible refine (Hlen6.out).mono ?_)
              rintro e w7 ⟨rfl, rfl⟩
              go_wp2_with fail
              refine hK.out _ _ ?_ (fun hHeld => ?_)
              · exact ⟨he0, he1, he2⟩
              clear hK K
              (try simp only [Act.put, List.setIfInBounds_toArray, List.set_cons_zero, List.set_cons_succ])
              refine wpAnyH_take (i := 22) (oi := ⟨some 111, _, _, _, _, _⟩) (v := ?_) rfl (by kernel_rfl) (by kernel_rfl) (by kernel_rfl) (fun _ _ _ h => h) (Or.inl ⟨by rfl, ?_⟩) (by assumption) ?_
              rotate_left
              · intro w hSw
                (try dsimp only at hSw)
                go_simp
                (try with_reducible rfl)
              (try simp only [Act.put, List.setIfInBounds_toArray, List.set_cons_zero, List.set_cons_succ])
              refine wpAnyH_take (i := 23) (oi := ⟨some 112, _, _, _, _, _⟩) (v := ?_) rfl (by kernel_rfl) (by kernel_rfl) (by kernel_rfl) (fun _ _ _ h => h) (Or.inl ⟨by rfl, ?_⟩) (by assumption) ?_
              rotate_left
              · intro w hSw
                (try dsimp only at hSw)
                go_simp
                (try with_reducible rfl)
              (try simp only [Act.put, List.setIfInBounds_toArray, List.set_cons_zero, List.set_cons_succ])
              refine wpAnyH_done (by kernel_rfl) ?_ _
              go_wp2_with fail
              go_meet
              exact ⟨rfl, _, HL6.out, HR6.out, fun x hx hg => by
                rcases HG6.out x hg with h | h
                · exact HF5.out x hx h
                · have := (HL5.out.ge x hx).2; have h : w5.heap.size ≤ x := h; omega, HB5.out.drew.trans (HC6.out.below (fun y hy => by rcases hy with rfl | hy; exact Hw1.out; exact Nat.le_trans Hw1.out (HUge.out y hy)) HB5.out.size)⟩
            · exact AllReadyH.nil
          · exact AllReadyH.nil
        · exact AllReadyH.nil
      case rest =>
        obtain ⟨rfl, sv6, hL6, hR6, hD6, hB6⟩ := hcut
        go_wp2
        go_roundw
        case rel => exact ⟨n + 1, L5, F5, sv6, by omega, by go_num, by omega, hL6, hR6, hD6, hB6⟩
        case measure => simp [intOf]; omega
    · have hLl : L.length ≤ 80 := by omega
      have HBR := Lib.hid hbr
      clear hLn hbr
      have hk0 : KR wr a' l' := fun hl => by
        obtain ⟨b, off, rfl, hc⟩ := H'.out.1 hl
        exact ⟨b, off, rfl, fun i hi => cell_next (hc i hi) _ HBR.out⟩
      have HK0 := Lib.hid hk0
      obtain ⟨i0, hi, hz0, hz1, hz2⟩ := info_parts infoInt05
      have Hi := Lib.hid hi
      have Hz0 := Lib.hid hz0
      have Hz3 := Lib.hid hz1
      have Hzb := Lib.hid hz2
      clear hk0 hi hz0 hz1 hz2
      go_wp2
      generalize wr = wR at *
      go_loopw [1, 116] (fun v i wx => ∃ (n : Nat) (K : List Int) (ao : Option Addr) (cc : Nat), n ≤ l.length ∧ i = .int .i64 n ∧ v = .slice ao K.length cc ∧ K.length = l'.length + n ∧ K.length ≤ cc ∧ KR wx ao K ∧ Below wR.heap.size wR wx) (fun _ i _ => l.length - (intOf i).toNat)
      case atStart => exact ⟨0, l', a', c', Nat.zero_le _, rfl, rfl, rfl, hcc, HK0.out, Below.refl _ _⟩
      case round =>
        clear HK0
        obtain ⟨n, K, ao, cc, hn, rfl, rfl, hKl, hKc, hkr, hbx⟩ := hrel
        have HKR := Lib.hid hkr
        have HKl := Lib.hid hKl
        have hKb : K.length ≤ 110 := by omega
        clear hkr hKl
        by_cases hlt : n < l.length
        · obtain ⟨b, off, rfl, f0, f1, f2⟩ := H.out.cells (bnext HBR.out hbx) n hlt
          generalize l[n] = x at *
          go_upto_region 18 with (fail)
          refine gen_wp (fun w' => w'.cell? ⟨wr.heap.size, 0, none⟩ = some (.int .i64 x.k) ∧ Below wr.heap.size wr w') ?_ ?_
          · refine ⟨?_, ?_⟩
            · go_simp
            · (repeat first | exact Below.refl _ _ | refine Below.drew ?_ | refine Below.alloc ?_ (by simp <;> omega) _ | refine Below.setCell ?_ (by simp <;> omega) _)
          rintro w6 ⟨g0, hb6⟩
          have Hl1 : Hid ((l.take (n + 1)).length = n + 1) := Lib.hid (by rw [List.length_take]; omega)
          have A2 : Hid (∀ jj u, [Value.int .i64 x.k][jj]? = some u → (w6.alloc (.cells #[.int .i64 x.k] 3)).drew.cell? ((⟨w6.heap.size, 0, none⟩ : Addr).add jj) = some u) := Lib.hid (cells_new w6 #[.int .i64 x.k] _ _)
          have hB6 : Below wr.heap.size wr (w6.alloc (.cells #[.int .i64 x.k] 3)).drew := (hb6.alloc hb6.size _).drew
          have A3 : Hid (∀ b, ao = some b → ∀ j u, (evs K)[j]? = some u → (w6.alloc (.cells #[.int .i64 x.k] 3)).drew.cell? (b.add j) = some u) := Lib.hid fun b hb j u hj => by
            have hjl : j < K.length := by have := (List.getElem?_eq_some_iff.1 hj).1; simpa [evs] using this
            obtain ⟨g, o, e, hc⟩ := (HKR.out.below hB6) (by omega)
            rw [e] at hb
            cases hb
            rw [add_none, hc j hjl, ← hj]
            simp [evs, hjl]
          have A4 : ao = none → K.length = 0 ∧ K.length = 0 := fun e => by
            rcases Nat.eq_zero_or_pos K.length with h | h
            · exact ⟨h, h⟩
            · obtain ⟨g, o, e2, _⟩ := HKR.out h
              rw [e] at e2; cases e2
          have A5 : K.length + 1 ≤ maxLen := by unfold maxLen; omega
          have A6 : (K.length + 1) * 8 ≤ 140737488355328 := by omega
          have A7 : (evs K).length = K.length * 1 := by simp [evs]
          have A8 : ∀ u ∈ [Value.int .i64 x.k], u.oneCell' = true := by intro u hu; simp at hu; subst hu; rfl
          have A9 : K.length < K.length + 1 := Nat.lt_succ_self _
          have HX : Hid (∀ W v2, W.ownsRow (w6.alloc (.cells #[.int .i64 x.k] 3)).drew.heap.size 3 1 v2 (K.length + 1) (evs K ++ [.int .i64 x.k]) → (w6.alloc (.cells #[.int .i64 x.k] 3)).drew.grownBy W none → ∃ a2 c2, v2 = .slice a2 (K.length + 1) c2 ∧ K.length + 1 ≤ c2 ∧ KR W a2 (K ++ [x.k]) ∧ Below wR.heap.size wR W) := Lib.hid fun W v2 ho hg => by
            have e : evs K ++ [.int .i64 x.k] = evs (K ++ [x.k]) := (evs_snoc K x.k).symm
            rw [e] at ho
            obtain ⟨a2, c2, h1, h2, h3⟩ := keys_kr ho (by simp) (Nat.zero_le _)
            have hl2 : (K ++ [x.k]).length = K.length + 1 := by simp
            rw [hl2] at h1 h2
            have hgb : Below (w6.alloc (.cells #[.int .i64 x.k] 3)).drew.heap.size (w6.alloc (.cells #[.int .i64 x.k] 3)).drew W := ⟨hg.os, hg.tape, hg.output, hg.size, fun k hk => hg.block k hk (by simp)⟩
            exact ⟨a2, c2, h1, h2, h3.kr, bnext hbx (bnext hB6 hgb)⟩
          have HL2 : Hid (K ++ [x.k] = K ++ [x.k] ∧ (K ++ [x.k]).length = K.length + 1) := Lib.hid ⟨rfl, by simp⟩
          have I1 : (0 : Int) ≤ (K.length : Int) := by omega
          have I2 : (K.length : Int) ≤ (cc : Int) := by omega
          have I3 : max (K.length : Int) 0 = (K.length : Int) := by omega
          have I4 : ((K.length : Int)).toNat = K.length := rfl
          clear hB6 f0 f1 f2 hbx hb6
          generalize x.k = xk at *
          go_region_law (refine step_append_grows (by rfl) (.tmp 125) (.tmp 128) 25 (by rfl) 3 i0 (.int .i64 0) 1 8 Try.underlying25 Hi.out Hz0.out Hz3.out Hzb.out rfl (by decide) ao K.length K.length (evs K) (by rfl) A4 A7 A3.out ⟨w6.heap.size, 0, none⟩ 1 1 [.int .i64 xk] (by rfl) rfl A2.out A8 A9 A5 A6 ?_; intro v2 w2' ho2 hg2; obtain ⟨a2, c2, rfl, k1, k2, k3⟩ := HX.out _ _ ho2 hg2; clear ho2 hg2)
          all_goals
            go_wp2
            go_roundw
            case rel => exact ⟨n + 1, K ++ [xk], a2, c2, by omega, by go_num, by rw [HL2.out.2], by rw [HL2.out.2, HKl.out]; omega, by rw [HL2.out.2]; exact k1, k2, k3⟩
            case measure => simp [intOf]; omega
        · have HBX := Lib.hid hbx
          have hrs := HT.out.rise
          have hL9 : L.length ≤ 9999 := by omega
          have hL99 : L.length ≤ 999999 := by omega
          have HCl := Lib.hid (fun W (hW : Below wR.heap.size wR W) => (HT.out.below hW : LI W w.heap.size p F L))
          obtain ⟨av, cs, rfl, hcs1, hcs2, _⟩ := HU.out.shape
          unfold maxLen at hcs2
          have HCr := Lib.hid (fun W (hW : Below wR.heap.size wR W) => (HU.out.below hW : RfL W q q (.slice av L.length cs) L))
          have HCq := Lib.hid (fun W (hW : Below wR.heap.size wR W) => (cell_one (HU.out.below hW).box).1)
          have HRs := Lib.hid hrs
          clear hbx hrs
          generalize wr = w7 at *
          go_wp2
          go_loopw [133] (fun i wx => ∃ n : Nat, n ≤ K.length ∧ i = .int .i64 n ∧ Below w7.heap.size w7 wx) (fun i _ => K.length - (intOf i).toNat)
          case atStart => exact ⟨0, Nat.zero_le _, rfl, Below.refl _ _⟩
          case round =>
            have HB7 := Lib.hid HBX.out
            clear HBX
            obtain ⟨n, hn, rfl, hbx⟩ := hrel
            have HBX := Lib.hid (bnext HB7.out hbx)
            by_cases hlt3 : n < K.length
            · obtain ⟨b, off, rfl, f0⟩ := HKR.out.cell hbx n hlt3
              generalize K[n]'hlt3 = k at *
              have Hfi : Hid (∀ W, Below wR.heap.size wR W → Calls Try.prog 35 #[.pointer (some ⟨q, 0, none⟩), .int .i64 k] W fun e w' => e = .returned (.int .i64 (plE L (getE L k))) ∧ W = w') := Lib.hid fun W hW => rfind (HCr.out W hW) HRs.out hL9 k
              have Hget := Lib.hid (fun W hW => LI.get (HCl.out W hW) hL99 k)
              have Hhe := Lib.hid (fun W hW => LI.height (HCl.out W hW) hL99 k)
              have hce : ∃ i : Nat, (∀ W, Below w7.heap.size w7 W → Calls Try.prog 15 #[.pointer (some ⟨p, 0, none⟩), .int .i64 k] W fun e w' => e = .returned (.tuple #[.int .i64 (tkE L i), .int .i64 (tvE L i), .bool (tbE L i)]) ∧ Below W.heap.size W w') ∧ (∀ W, Below wR.heap.size wR W → Calls Try.prog 38 #[.pointer (some ⟨q, 0, none⟩), .int .i64 k, .bool true] W fun e w' => e = .returned (.int .i64 (plE L i)) ∧ W = w') := ⟨ceilE L k, fun W hW => LI.ceil (HCl.out W (bnext HB7.out hW)) hL99 k, fun W hW => rabove (HCr.out W hW) HRs.out hL9 k true⟩
              have hfl : ∃ i : Nat, (∀ W, Below w7.heap.size w7 W → Calls Try.prog 14 #[.pointer (some ⟨p, 0, none⟩), .int .i64 k] W fun e w' => e = .returned (.tuple #[.int .i64 (tkE L i), .int .i64 (tvE L i), .bool (tbE L i)]) ∧ Below W.heap.size W w') ∧ (∀ W, Below wR.heap.size wR W → Calls Try.prog 39 #[.pointer (some ⟨q, 0, none⟩), .int .i64 k, .bool true] W fun e w' => e = .returned (.int .i64 (plE L i)) ∧ W = w') := ⟨floorE L k, fun W hW => LI.floor (HCl.out W (bnext HB7.out hW)) hL99 k, fun W hW => rbelow (HCr.out W hW) HRs.out hL9 k true⟩
              have hnx : ∃ i : Nat, (∀ W, Below w7.heap.size w7 W → Calls Try.prog 17 #[.pointer (some ⟨p, 0, none⟩), .int .i64 k] W fun e w' => e = .returned (.tuple #[.int .i64 (tkE L i), .int .i64 (tvE L i), .bool (tbE L i)]) ∧ Below W.heap.size W w') ∧ (∀ W, Below wR.heap.size wR W → Calls Try.prog 38 #[.pointer (some ⟨q, 0, none⟩), .int .i64 k, .bool false] W fun e w' => e = .returned (.int .i64 (plE L i)) ∧ W = w') := ⟨nextE L k, fun W hW => LI.next (HCl.out W (bnext HB7.out hW)) hL99 k, fun W hW => rabove (HCr.out W hW) HRs.out hL9 k false⟩
              have hpv : ∃ i : Nat, (∀ W, Below w7.heap.size w7 W → Calls Try.prog 36 #[.pointer (some ⟨p, 0, none⟩), .int .i64 k] W fun e w' => e = .returned (.tuple #[.int .i64 (tkE L i), .int .i64 (tvE L i), .bool (tbE L i)]) ∧ Below W.heap.size W w') ∧ (∀ W, Below wR.heap.size wR W → Calls Try.prog 39 #[.pointer (some ⟨q, 0, none⟩), .int .i64 k, .bool false] W fun e w' => e = .returned (.int .i64 (plE L i)) ∧ W = w') := ⟨prevE L k, fun W hW => LI.prev (HCl.out W (bnext HB7.out hW)) hL99 k, fun W hW => rbelow (HCr.out W hW) HRs.out hL9 k false⟩
              obtain ⟨i1, x1, y1⟩ := hce
              have X1 := Lib.hid x1
              have Y1 := Lib.hid y1
              clear x1 y1
              obtain ⟨i2, x2, y2⟩ := hfl
              have X2 := Lib.hid x2
              have Y2 := Lib.hid y2
              clear x2 y2
              obtain ⟨i3, x3, y3⟩ := hnx
              have X3 := Lib.hid x3
              have Y3 := Lib.hid y3
              clear x3 y3
              obtain ⟨i4, x4, y4⟩ := hpv
              have X4 := Lib.hid x4
              have Y4 := Lib.hid y4
              clear x4 y4
              have Hfo := Lib.hid (fun (i : Nat) W hW => rfound (HCr.out W hW) hL9 i)
              have HBR7 := Lib.hid hbx
              have b0 := HCq.out _ HBX.out
              clear hbx
              cases hh : hI L k with
              | true =>
                obtain ⟨hc, hk, hg, _, _⟩ := has_tells hh
                have hht : htE L k = L[cI L k].h := by unfold htE; rw [hh, if_pos rfl, dif_pos hc]
                have hfi := Hfi.out _ HBX.out
                have hget := Hget.out _ HBX.out
                rw [hg, plE_at hc] at hfi
                rw [hg, tvE_at hc, tbE_true.2 hc] at hget
                have hhe : ∀ W, Below wR.heap.size wR W → Calls Try.prog 24 #[.pointer (some ⟨p, 0, none⟩), .int .i64 k] W fun e w' => e = .returned (.int .i64 (L[cI L k].h : Nat)) ∧ Below W.heap.size W w' := fun W hW => by
                  have := Hhe.out W hW
                  rw [hht] at this; exact this
                obtain ⟨gs, rfl, d0, d1, d2⟩ := (HCr.out _ HBX.out).cells (cI L k) hc
                have s0 := cell_next b0
                have s1 := cell_next d1
                have s2 := cell_next d2
                have Hfi2 := Lib.hid hfi
                have Hget2 := Lib.hid hget
                have Hhe2 := Lib.hid hhe
                clear hfi hget hhe hht hg hk Hfi Hget Hhe d0 hh
                generalize L[cI L k].v = xv at *
                generalize L[cI L k].h = xh at *
                generalize cI L k = m at *
                go_wp2_with fail; (with_reducible refine (Hfi2.out).mono ?_); rintro e w8 ⟨rfl, rfl⟩
                go_wp2_with fail; (with_reducible refine (Hget2.out).mono ?_); rintro e w9 ⟨rfl, hb9⟩
                have t0 := s0 _ hb9
                have t1 := s1 _ hb9
                have t2 := s2 _ hb9
                have HB9 := Lib.hid (bnext HBX.out hb9)
                have HB97 := Lib.hid (bnext HBR7.out hb9)
                clear hb9 s0 s1 s2 b0 d1 d2 Hfi2 Hget2
                go_wp2_with fail; (with_reducible refine (Hhe2.out _ HB9.out).mono ?_); rintro e wz ⟨rfl, hbz⟩
                have HBC := Lib.hid (bnext HB97.out hbz)
                clear hbz t0 t1 t2
                go_wp2_with fail; (with_reducible refine (X1.out _ HBC.out).mono ?_); rintro e wa ⟨rfl, hba⟩
                have HBA := Lib.hid (bnext HBC.out hba)
                clear hba
                go_wp2_with fail; (with_reducible refine (X2.out _ HBA.out).mono ?_); rintro e wb ⟨rfl, hbb⟩
                have HBB := Lib.hid (bnext HBA.out hbb)
                clear hbb
                go_wp2_with fail; (with_reducible refine (X3.out _ HBB.out).mono ?_); rintro e wc ⟨rfl, hbc⟩
                have HBC2 := Lib.hid (bnext HBB.out hbc)
                clear hbc
                go_wp2_with fail; (with_reducible refine (X4.out _ HBC2.out).mono ?_); rintro e wd ⟨rfl, hbd⟩
                have HBD := Lib.hid (bnext HBC2.out hbd)
                clear hbd
                go_wp2_with fail; (with_reducible refine (Y1.out _ (bnext HB7.out HBD.out)).mono ?_); rintro e wd ⟨rfl, rfl⟩
                go_wp2_with fail; (with_reducible refine (Hfo.out i1 _ (bnext HB7.out HBD.out)).mono ?_); rintro e wd ⟨rfl, rfl⟩
                go_wp2_with fail; (with_reducible refine (Y2.out _ (bnext HB7.out HBD.out)).mono ?_); rintro e wd ⟨rfl, rfl⟩
                go_wp2_with fail; (with_reducible refine (Hfo.out i2 _ (bnext HB7.out HBD.out)).mono ?_); rintro e wd ⟨rfl, rfl⟩
                go_wp2_with fail; (with_reducible refine (Y3.out _ (bnext HB7.out HBD.out)).mono ?_); rintro e wd ⟨rfl, rfl⟩
                go_wp2_with fail; (with_reducible refine (Hfo.out i3 _ (bnext HB7.out HBD.out)).mono ?_); rintro e wd ⟨rfl, rfl⟩
                go_wp2_with fail; (with_reducible refine (Y4.out _ (bnext HB7.out HBD.out)).mono ?_); rintro e wd ⟨rfl, rfl⟩
                go_wp2_with fail; (with_reducible refine (Hfo.out i4 _ (bnext HB7.out HBD.out)).mono ?_); rintro e wd ⟨rfl, rfl⟩
                go_wp2
                go_roundw
                case rel => exact ⟨n + 1, by omega, by go_num, HBD.out⟩
                case measure => simp [intOf]; omega
              | false =>
                have hge : getE L k = L.length := if_neg (by rw [hh]; simp)
                have hht : htE L k = 0 := by unfold htE; rw [hh, if_neg (by simp)]
                have hfi := Hfi.out _ HBX.out
                have hget := Hget.out _ HBX.out
                rw [hge, plE_no (Nat.le_refl _)] at hfi
                rw [hge, show tvE L L.length = 0 from dif_neg (by omega), tbE_false.2 (Nat.le_refl _)] at hget
                have hhe : ∀ W, Below wR.heap.size wR W → Calls Try.prog 24 #[.pointer (some ⟨p, 0, none⟩), .int .i64 k] W fun e w' => e = .returned (.int .i64 0) ∧ Below W.heap.size W w' := fun W hW => by
                  have := Hhe.out W hW
                  rw [hht] at this; exact this
                have Hfi2 := Lib.hid hfi
                have Hget2 := Lib.hid hget
                have Hhe2 := Lib.hid hhe
                clear hfi hget hhe hht hge Hfi Hget Hhe hh b0
                go_wp2_with fail; (with_reducible refine (Hfi2.out).mono ?_); rintro e w8 ⟨rfl, rfl⟩
                go_wp2_with fail; (with_reducible refine (Hget2.out).mono ?_); rintro e w9 ⟨rfl, hb9⟩
                have HB9 := Lib.hid (bnext HBX.out hb9)
                have HB97 := Lib.hid (bnext HBR7.out hb9)
                clear hb9 Hfi2 Hget2
                go_wp2_with fail; (with_reducible refine (Hhe2.out _ HB9.out).mono ?_); rintro e wz ⟨rfl, hbz⟩
                have HBC := Lib.hid (bnext HB97.out hbz)
                clear hbz
                go_wp2_with fail; (with_reducible refine (X1.out _ HBC.out).mono ?_); rintro e wa ⟨rfl, hba⟩
                have HBA := Lib.hid (bnext HBC.out hba)
                clear hba
                go_wp2_with fail; (with_reducible refine (X2.out _ HBA.out).mono ?_); rintro e wb ⟨rfl, hbb⟩
                have HBB := Lib.hid (bnext HBA.out hbb)
                clear hbb
                go_wp2_with fail; (with_reducible refine (X3.out _ HBB.out).mono ?_); rintro e wc ⟨rfl, hbc⟩
                have HBC2 := Lib.hid (bnext HBB.out hbc)
                clear hbc
                go_wp2_with fail; (with_reducible refine (X4.out _ HBC2.out).mono ?_); rintro e wd ⟨rfl, hbd⟩
                have HBD := Lib.hid (bnext HBC2.out hbd)
                clear hbd
                go_wp2_with fail; (with_reducible refine (Y1.out _ (bnext HB7.out HBD.out)).mono ?_); rintro e wd ⟨rfl, rfl⟩
                go_wp2_with fail; (with_reducible refine (Hfo.out i1 _ (bnext HB7.out HBD.out)).mono ?_); rintro e wd ⟨rfl, rfl⟩
                go_wp2_with fail; (with_reducible refine (Y2.out _ (bnext HB7.out HBD.out)).mono ?_); rintro e wd ⟨rfl, rfl⟩
                go_wp2_with fail; (with_reducible refine (Hfo.out i2 _ (bnext HB7.out HBD.out)).mono ?_); rintro e wd ⟨rfl, rfl⟩
                go_wp2_with fail; (with_reducible refine (Y3.out _ (bnext HB7.out HBD.out)).mono ?_); rintro e wd ⟨rfl, rfl⟩
                go_wp2_with fail; (with_reducible refine (Hfo.out i3 _ (bnext HB7.out HBD.out)).mono ?_); rintro e wd ⟨rfl, rfl⟩
                go_wp2_with fail; (with_reducible refine (Y4.out _ (bnext HB7.out HBD.out)).mono ?_); rintro e wd ⟨rfl, rfl⟩
                go_wp2_with fail; (with_reducible refine (Hfo.out i4 _ (bnext HB7.out HBD.out)).mono ?_); rintro e wd ⟨rfl, rfl⟩
                go_wp2
                go_roundw
                case rel => exact ⟨n + 1, by omega, by go_num, HBD.out⟩
                case measure => simp [intOf]; omega
            · have hfs : ∃ (k0 v0 : Int) (t0 : Bool), (∀ W, Below wR.heap.size wR W → Calls Try.prog 40 #[.pointer (some ⟨p, 0, none⟩)] W fun e w' => e = .returned (.tuple #[.int .i64 k0, .int .i64 v0, .bool t0]) ∧ Below W.heap.size W w') ∧ (∀ W, Below wR.heap.size wR W → Calls Try.prog 37 #[.int .i64 k0, .int .i64 v0, .bool t0, .pointer (some ⟨q, 0, none⟩), .int .i64 (plE L 0)] W fun e w' => e = .returned (.bool true) ∧ W = w') := ⟨_, _, _, fun W hW => LI.first (HCl.out W hW) hL99, fun W hW => rfound (HCr.out W hW) hL9 0⟩
              have hls : ∃ (k0 v0 : Int) (t0 : Bool), (∀ W, Below wR.heap.size wR W → Calls Try.prog 41 #[.pointer (some ⟨p, 0, none⟩)] W fun e w' => e = .returned (.tuple #[.int .i64 k0, .int .i64 v0, .bool t0]) ∧ Below W.heap.size W w') ∧ (∀ W, Below wR.heap.size wR W → Calls Try.prog 37 #[.int .i64 k0, .int .i64 v0, .bool t0, .pointer (some ⟨q, 0, none⟩), .int .i64 (plE L (L.length - 1))] W fun e w' => e = .returned (.bool true) ∧ W = w') := ⟨_, _, _, fun W hW => LI.last (HCl.out W hW) hL99, fun W hW => rfound (HCr.out W hW) hL9 _⟩
              obtain ⟨k1, v1, t1, x1, y1⟩ := hfs
              obtain ⟨k2, v2, t2, x2, y2⟩ := hls
              have e2 : plE L (L.length - 1) = (L.length : Int) - 1 := by unfold plE; split <;> omega
              rw [e2] at y2
              have E1 := Lib.hid (show ((L.length : Int) - 1 < 0 ∧ plE L 0 = (L.length : Int) - 1) ∨ (¬ ((L.length : Int) - 1 < 0) ∧ plE L 0 = 0) from by unfold plE; split <;> omega)
              have X1 := Lib.hid x1
              have X2 := Lib.hid x2
              have Y1 := Lib.hid y1
              have Y2 := Lib.hid y2
              have HKy := Lib.hid (fun W hW => LI.keys (HCl.out W hW) hL99)
              clear x1 x2 y1 y2 e2 hbx
              go_wp2_with fail; (with_reducible refine (X1.out _ HBX.out).mono ?_); rintro e w8 ⟨rfl, hb8⟩
              have HB8 := Lib.hid (bnext HBX.out hb8)
              clear hb8 X1 HBX
              go_wp2_with fail; (with_reducible refine (X2.out _ HB8.out).mono ?_); rintro e w9 ⟨rfl, hb9⟩
              have HB9 := Lib.hid (bnext HB8.out hb9)
              have b9 := HCq.out _ HB9.out
              clear hb9 X2 HB8
              go_upto_region 39 with fail
              go_cut [299] from 273 to 299 (fun t wx => t = .bool false ∧ wx = w9)
              case first =>
                rcases E1.out with ⟨hz1, e1⟩ | ⟨hz1, e1⟩
                all_goals
                  rw [e1] at Y1
                  go_wp2_with fail; (with_reducible refine (Y1.out _ HB9.out).mono ?_); rintro e w9 ⟨rfl, rfl⟩
                  go_wp2_with fail; (with_reducible refine (Y2.out _ HB9.out).mono ?_); rintro e w9 ⟨rfl, rfl⟩
                  go_wp2
                  go_meet
                  exact ⟨rfl, rfl⟩
              obtain ⟨rfl, rfl⟩ := hcut
              clear E1
              go_wp2_with fail; (with_reducible refine (HKy.out _ HB9.out).mono ?_); rintro e wa ⟨u, rfl, hra, hba⟩
              obtain ⟨aa, ca, rfl, hca, hka⟩ := keys_kr hra (by simp) (Nat.le_refl _)
              simp only [List.length_map] at *
              have HKA := Lib.hid hka.kr
              have HBA := Lib.hid (bnext HB9.out hba)
              have ba := HCq.out _ HBA.out
              clear hra hka hba b9 Y1 Y2 HKy HB9
              go_wp2
              go_loopw [312] (fun i wr => ∃ n : Nat, n ≤ L.length ∧ i = .int .i64 n ∧ Below wa.heap.size wa wr) (fun i _ => L.length - (intOf i).toNat)
              case atStart => exact ⟨0, Nat.zero_le _, rfl, Below.refl _ _⟩
              case round =>
                clear ba
                obtain ⟨n, hn, rfl, hbz⟩ := hrel
                have HBZ := Lib.hid (bnext HBA.out hbz)
                have bz := HCq.out _ HBZ.out
                by_cases hlt4 : n < L.length
                · obtain ⟨g1, o1, rfl, d1⟩ := HKA.out.cell hbz n (by simpa using hlt4)
                  rw [List.getElem_map] at d1
                  obtain ⟨gs, rfl, d0, f1, f2⟩ := (HCr.out _ HBZ.out).cells n hlt4
                  generalize L[n].k = y at *
                  clear f1 f2
                  go_upto_region 47 with fail
                  go_region
                  go_wp2
                  go_roundw
                  case rel => exact ⟨n + 1, by omega, by go_num, bnext hbz (Below.refl _ wr).drew⟩
                  case measure => simp [intOf]; omega
                · have HBY := Lib.hid (bnext HBR.out HBZ.out)
                  go_wp2_with fail; (with_reducible refine (awake05 _).mono ?_); rintro e wy ⟨rfl, hby⟩
                  go_wp2
                  go_ret
                  exact ⟨rfl, bnext HBY.out hby⟩
end Go.Proofs.Ythpafhimmhacfaa
