/- AllocPlays: its walk. -/
import Derived.Test.YtcgjkgcafkcgoaaAr5
import Derived.Deep.QuietTactic
import Derived.BigQuiet
namespace Go.Proofs.Ytcgjkgcafkcgoaa
open Go.RowKit
set_option linter.unusedVariables false
set_option linter.unusedSimpArgs false

theorem row_kz8 {w : World} {B : Nat} {a : Option Addr} {c : Nat} {Q : List Int} (h : w.ownsRow B 3 1 (.slice a Q.length c) Q.length (ivs Q)) : KZ w a Q := fun hp => by
  rcases h.2 with ⟨e1, _⟩ | ⟨x, cap, cur, e1, _⟩
  · simp only [Value.slice.injEq] at e1; have := e1.2.1; omega
  · simp only [Value.slice.injEq] at e1
    obtain ⟨rfl, _, rfl⟩ := e1
    refine ⟨x, 0, rfl, fun i hi => ?_⟩
    rw [Nat.zero_add, World.ownsRow.cellAt h i (by omega)]
    simp [ivs, hi]
theorem nvs_ivs (L : List Nat) : nvs L = ivs (L.map fun (z : Nat) => (z : Int)) := by simp [nvs, ivs]
/-- both are new -/
theorem PI.new {w0 w2 w3 : World} {p d g N : Nat} {H : Nat → Prop} (hN : N ≤ 64) (hA : AT w2 w0.heap.size p d H (List.replicate N 0) [] (dv0 N 16 N)) (hb : Below w0.heap.size w0 w2) (hr : w3.ownsRow w2.heap.size 3 1 (.slice (some ⟨g, 0, none⟩) N N) N (ivs (List.replicate N 0))) (hb3 : Below w2.heap.size w2 w3) :
    PI w0 (w3.alloc (.cells #[.slice (some ⟨g, 0, none⟩) N N, .slice none 0 0] 51)) p d w3.heap.size g N 0 := by
  have hgl := World.ownsRow.lt hr g rfl
  have hba := (Below.refl w3.heap.size w3).alloc (Nat.le_refl _) (.cells #[.slice (some ⟨g, 0, none⟩) N N, .slice none 0 0] 51)
  have hb4 := hb3.trans (hba.mono hb3.size)
  have hln : (List.replicate N (0 : Int)).length = N := List.length_replicate
  have hz0 := hb.size
  have hz3 := hb3.size
  refine ⟨H, fun k => fpT w3.heap.size g (.slice none 0 0) k, List.replicate N 0, List.replicate N false, [], dv0 N 16 N, hA.below hb4, ⟨.slice none 0 0, ⟨?_, ?_, .inl ⟨rfl, rfl⟩, by omega, by rw [hln]; exact hN, by omega, by simp [Value.ownBlock], by simp [Value.ownBlock]⟩, fun k => Iff.rfl⟩, fun k hk hf => ?_, ainv0 N, ⟨rfl, Nat.le_refl _⟩, hb.trans (hb4.mono hz0)⟩
  · rw [hln]; exact heap_alloc_new w3 _
  · rw [hln]; exact row_mono (World.ownsRow.alloc hr _) hz0
  · have h1 := (hA.ge k hk).2
    rcases hf with rfl | rfl | hf
    · omega
    · omega
    · simp [Value.ownBlock] at hf
set_option maxRecDepth 100000 in
set_option maxHeartbeats 32000000 in
theorem plays_walk {w : World} {a : Option Addr} {c : Nat} {l : List O8} (h : O8s w a l) (hl : l.length ≤ maxLen) (zs : Int) :
    Calls Try.prog 7 #[.int .i64 zs, .slice a l.length c] w fun e w' => e = .returned (.bool true) ∧ Below w.heap.size w w' := by
  unfold maxLen at hl
  have HK := Lib.hid h
  clear h
  by_cases hzs : zs < 1 ∨ 64 < zs
  · have Hn := Lib.hid (alnew_bad zs w hzs)
    have h2 : zs < 1 ∨ (1 ≤ zs ∧ 64 < zs) := by omega
    clear hzs
    rcases h2 with h1 | ⟨h1, h2⟩
    · go_enter Try.func7, Try.ntmps7
      go_wp2_with fail; (with_reducible refine (Hn.out).mono ?_); rintro e w1 ⟨rfl, rfl⟩
      go_wp2_with fail; (with_reducible refine (alawake _).mono ?_); rintro e w3 ⟨rfl, hb3⟩
      go_wp2
      go_ret
      exact ⟨rfl, hb3⟩
    · have h1' : decide (zs < 1) = false := decide_eq_false (by omega)
      go_enter Try.func7, Try.ntmps7
      go_wp2_with fail; (with_reducible refine (Hn.out).mono ?_); rintro e w1 ⟨rfl, rfl⟩
      go_wp2_with fail; (with_reducible refine (alawake _).mono ?_); rintro e w3 ⟨rfl, hb3⟩
      go_wp2
      go_ret
      exact ⟨rfl, hb3⟩
  · obtain ⟨N, rfl⟩ := Int.eq_ofNat_of_zero_le (show 0 ≤ zs by omega)
    have hN1 : 1 ≤ N := by omega
    have hN2 : N ≤ 64 := by omega
    have h1' : decide ((N : Int) < 1) = false := decide_eq_false (by omega)
    have h2' : decide (64 < (N : Int)) = false := decide_eq_false (by omega)
    clear hzs
    have Hn := Lib.hid (alnew N w hN1 hN2)
    go_enter Try.func7, Try.ntmps7
    go_wp2_with fail; (with_reducible refine (Hn.out).mono ?_); rintro e w1 ⟨p, gt, rfl, hT1, hb1⟩
    have HT1 := Lib.hid hT1
    have HB1 := Lib.hid hb1
    clear hT1 hb1 Hn
    go_wp2_with fail; (with_reducible refine (aldev N _ hN1 hN2).mono ?_); rintro e w2 ⟨d, G, rfl, hD2, hb2⟩
    have hat := AT.new HT1.out hb2 hD2
    have HB2 := Lib.hid (bnext HB1.out hb2)
    obtain ⟨H0, hA0⟩ := hat
    have HA0 := Lib.hid hA0
    clear HT1 HB1 hb2 hD2 hA0 h1' h2'
    by_cases hlc : l.length ≤ 120
    case neg =>
      go_wp2_with fail; (with_reducible refine (alawake _).mono ?_); rintro e w3 ⟨rfl, hb3⟩
      go_wp2
      go_ret
      exact ⟨rfl, bnext HB2.out hb3⟩
    have hdl : decide (120 < (l.length : Int)) = false := decide_eq_false (by omega)
    go_upto_region 8 with (at_make; go_loud (refine wpList_mki rfl (.tmp 59) (.tmp 59) rfl w2.heap.size N rfl rfl (by omega) (Nat.le_refl _) ?_); intro w3 ho3 hb3; go_loud (have HP := Lib.hid (PI.new hN2 HA0.out HB2.out ho3 hb3)); go_loud (clear ho3 hb3 HA0 HB2))
    clear hdl
    obtain ⟨x, hx⟩ : ∃ x, w3.heap.size = x := ⟨_, rfl⟩
    rw [hx] at HP ⊢
    obtain ⟨g, hg⟩ : ∃ g, w2.heap.size = g := ⟨_, rfl⟩
    rw [hg] at HP ⊢
    generalize w3.alloc (.cells #[.slice (some ⟨g, 0, none⟩) N N, .slice none 0 0] 51) = w4 at *
    clear hx hg
    go_wp2
    go_loopw [65] (fun i wr => ∃ m : Nat, m ≤ l.length ∧ i = .int .i64 m ∧ PI w wr p d x g N m) (fun i _ => l.length - (intOf i).toNat)
    case atStart => exact ⟨0, Nat.zero_le _, rfl, HP.out⟩
    case round =>
      clear HP
      obtain ⟨m, hm, rfl, H, F, R, hs, Q, D, hA, hX, hd, hI, hDN, hbr⟩ := hrel
      have HI := Lib.hid hI
      have HDN := Lib.hid hDN
      by_cases hlt : m < l.length
      · obtain ⟨b, off, rfl, f0, f1, f2⟩ := HK.out.cells hbr m hlt
        have hok := HK.out.2 _ (List.getElem_mem hlt)
        generalize l[m] = o at *
        obtain ⟨xk, xz, xn⟩ := o
        simp only at f0 f1 f2
        have HOk := Lib.hid hok
        go_upto_region 12 with (fail)
        have hb4 := (Below.refl wr.heap.size wr).alloc (Nat.le_refl _) (.cells #[.int .i64 xk, .int .i64 xz, .int .i64 xn] 42)
        have HJ : Hid (PJ w (wr.alloc (.cells #[.int .i64 xk, .int .i64 xz, .int .i64 xn] 42)) p d x g wr.heap.size xk xz xn R Q D R Q) := Lib.hid ⟨H, F, hA.below hb4, hX.below hb4, hd, fun h => by have := (hA.ge _ h).2; omega, fun h => by have := (hX.ge _ h).2; omega, box3 wr _ _ _ _, hbr.trans (hb4.mono hbr.size)⟩
        clear f0 f1 f2 hA hX hd hI hDN hbr hb4 hok H F
        generalize wr.alloc (.cells #[.int .i64 xk, .int .i64 xz, .int .i64 xn] 42) = w4 at *
        obtain ⟨qb, hqb⟩ : ∃ qb, wr.heap.size = qb := ⟨_, rfl⟩
        rw [hqb] at HJ ⊢
        clear hqb
        obtain ⟨q0, q1, q2⟩ := HJ.out.cells
        have HDs : Hid (DN D N (m + 1)) := Lib.hid ⟨HDN.out.1, Nat.le_succ_of_le HDN.out.2⟩
        go_upto_block 2 with (fail)
        go_cut [10, 11, 12, 13, 14, 15, 16, 17, 18, 19] from 71 to 248 (fun ok _ _ _ _ _ _ _ _ _ wx => ok = .bool true ∧ PI w wx p d x g N (m + 1))
        case first =>
          have h9 : xk = 1 ∨ xk = 2 ∨ xk = 3 ∨ xk = 4 ∨ xk = 5 ∨ xk = 6 ∨ xk = 7 ∨ xk = 8 ∨ (xk ≠ 1 ∧ xk ≠ 2 ∧ xk ≠ 3 ∧ xk ≠ 4 ∧ xk ≠ 5 ∧ xk ≠ 6 ∧ xk ≠ 7 ∧ xk ≠ 8) := by omega
          rcases h9 with rfl | rfl | rfl | rfl | rfl | rfl | rfl | rfl | ⟨k1, k2, k3, k4, k5, k6, k7, k8⟩
          ·
            --@v c1
            as_aux_lemma =>
              obtain ⟨zz, er, R', hs', hI2, hA, hX⟩ := take_both HI.out xn
              have Hc := Lib.hid (HJ.out.callA fun H h => hA _ _ _ _ _ _ h)
              have HI2 := Lib.hid hI2
              have HX := Lib.hid hX
              clear hI2 hA hX
              go_wp2_with fail; (with_reducible refine (Hc.out).mono ?_); rintro e w5 ⟨rfl, hj5⟩
              have HJ5 := Lib.hid hj5
              clear hj5 q0 q1 q2 Hc
              obtain ⟨q0, q1, q2⟩ := HJ5.out.cells
              have Hc := Lib.hid (HJ5.out.callX fun F h => HX.out _ _ _ _ _ h)
              go_wp2_with fail; (with_reducible refine (Hc.out).mono ?_); rintro e w6 ⟨rfl, hj6⟩
              have HX := Lib.hid (PI.of hj6 HI2.out HDs.out)
              clear hj6 q0 q1 q2 Hc
              go_wp2
              go_meet
              exact ⟨by first | rfl | simp, HX.out⟩
            --@/v
          ·
            --@v c2
            as_aux_lemma =>
              obtain ⟨er, R', hs', hI2, hA, hX⟩ := own_both HI.out xz xn
              have HJd : Hid (PJ w w4.drew p d x g qb 2 xz xn R Q D R Q) := Lib.hid (HJ.out.below (Below.refl _ w4).drew)
              have Hc := Lib.hid (HJd.out.callA fun H h => hA _ _ _ _ _ _ h)
              have HI2 := Lib.hid hI2
              have HX := Lib.hid hX
              clear hI2 hA hX
              go_upto_region 18 with (fail)
              obtain ⟨jd0, jd1, jd2⟩ := HJd.out.cells
              clear q0 q1 q2 jd0
              refine wp_region_held_drew (S := fun w' => w'.cell? ⟨qb, 1, none⟩ = some (.int .i64 xz) ∧ w'.cell? ⟨qb, 2, none⟩ = some (.int .i64 xn)) (by kernel_rfl) ⟨jd1, jd2⟩ (fun hHeld => ?_)
              refine wpAnyH_take (i := 0) (oi := ⟨some 97, _, _, _, _, _⟩) (v := ?_) rfl (by kernel_rfl) (by kernel_rfl) (by kernel_rfl) (fun _ _ _ h => h) (Or.inl ⟨by rfl, ?_⟩) (by assumption) ?_
              rotate_left
              · intro w hSw
                (try dsimp only at hSw)
                go_simp
                (try with_reducible rfl)
              (try simp only [Act.put, List.setIfInBounds_toArray, List.set_cons_zero, List.set_cons_succ])
              refine wpAnyH_take (i := 1) (oi := ⟨some 98, _, _, _, _, _⟩) (v := ?_) rfl (by kernel_rfl) (by kernel_rfl) (by kernel_rfl) (fun _ _ _ h => h) (Or.inl ⟨by rfl, ?_⟩) (by assumption) ?_
              rotate_left
              · intro w hSw
                (try dsimp only at hSw)
                go_simp
                (try with_reducible rfl)
              (try simp only [Act.put, List.setIfInBounds_toArray, List.set_cons_zero, List.set_cons_succ])
              refine wpAnyH_take (i := 2) (oi := ⟨some 99, _, _, _, _, _⟩) (v := ?_) rfl (by kernel_rfl) (by kernel_rfl) (by kernel_rfl) (fun _ _ _ h => h) (Or.inl ⟨by rfl, ?_⟩) (by assumption) ?_
              rotate_left
              · intro w hSw
                (try dsimp only at hSw)
                go_simp
                (try with_reducible rfl)
              (try simp only [Act.put, List.setIfInBounds_toArray, List.set_cons_zero, List.set_cons_succ])
              refine wpAnyH_take (i := 3) (oi := ⟨some 100, _, _, _, _, _⟩) (v := ?_) rfl (by kernel_rfl) (by kernel_rfl) (by kernel_rfl) (fun _ _ _ h => h) (Or.inl ⟨by rfl, ?_⟩) (by assumption) ?_
              rotate_left
              · intro w hSw
                (try dsimp only at hSw)
                go_simp
                (try with_reducible rfl)
              (try simp only [Act.put, List.setIfInBounds_toArray, List.set_cons_zero, List.set_cons_succ])
              refine wpAnyH_take (i := 4) (oi := ⟨some 101, _, _, _, _, _⟩) (v := ?_) rfl (by kernel_rfl) (by kernel_rfl) (by kernel_rfl) (fun _ _ _ h => h) (Or.inl ⟨by rfl, ?_⟩) (by assumption) ?_
              rotate_left
              · intro w hSw
                (try dsimp only at hSw)
                go_simp
                (try with_reducible rfl)
              (try simp only [Act.put, List.setIfInBounds_toArray, List.set_cons_zero, List.set_cons_succ])
              refine wpAnyH_take (i := 6) (oi := ⟨some 103, _, _, _, _, _⟩) (v := ?_) rfl (by kernel_rfl) (by kernel_rfl) (by kernel_rfl) (fun _ _ _ h => h) (Or.inl ⟨by rfl, ?_⟩) (by assumption) ?_
              rotate_left
              · intro w hSw
                (try dsimp only at hSw)
                go_simp
                (try with_reducible rfl)
              (try simp only [Act.put, List.setIfInBounds_toArray, List.set_cons_zero, List.set_cons_succ])
              refine wpAnyH_take (i := 7) (oi := ⟨some 104, _, _, _, _, _⟩) (v := ?_) rfl (by kernel_rfl) (by kernel_rfl) (by kernel_rfl) (fun _ _ _ h => h) (Or.inl ⟨by rfl, ?_⟩) (by assumption) ?_
              rotate_left
              · intro w hSw
                (try dsimp only at hSw)
                go_simp
                (try with_reducible rfl)
              (try simp only [Act.put, List.setIfInBounds_toArray, List.set_cons_zero, List.set_cons_succ])
              refine wpAnyH_take (i := 8) (oi := ⟨some 105, _, _, _, _, _⟩) (v := ?_) rfl (by kernel_rfl) (by kernel_rfl) (by kernel_rfl) (fun _ _ _ h => h) (Or.inl ⟨by rfl, ?_⟩) (by assumption) ?_
              rotate_left
              · intro w hSw
                (try dsimp only at hSw)
                go_simp
                (try with_reducible rfl)
              (try simp only [Act.put, List.setIfInBounds_toArray, List.set_cons_zero, List.set_cons_succ])
              refine wpAnyH_take (i := 9) (oi := ⟨some 106, _, _, _, _, _⟩) (v := ?_) rfl (by kernel_rfl) (by kernel_rfl) (by kernel_rfl) (fun _ _ _ h => h) (Or.inl ⟨by rfl, ?_⟩) (by assumption) ?_
              rotate_left
              · intro w hSw
                (try dsimp only at hSw)
                go_simp
                (try with_reducible rfl)
              (try simp only [Act.put, List.setIfInBounds_toArray, List.set_cons_zero, List.set_cons_succ])
              refine wpAnyH_take (i := 10) (oi := ⟨some 107, _, _, _, _, _⟩) (v := ?_) rfl (by kernel_rfl) (by kernel_rfl) (by kernel_rfl) (fun _ _ _ h => h) (Or.inl ⟨by rfl, ?_⟩) (by assumption) ?_
              rotate_left
              · intro w hSw
                (try dsimp only at hSw)
                go_simp
                (try with_reducible rfl)
              (try simp only [Act.put, List.setIfInBounds_toArray, List.set_cons_zero, List.set_cons_succ])
              refine wpAnyH_ready (rs := [5]) (by kernel_rfl) (by simp) ?_
              refine AllReadyH.cons (o := ⟨some 102, _, _, _, _, _⟩) rfl (fun K hK => ?_) ?_
              · go_simp
                (with_reducible refine (Hc.out).mono ?_)
                rintro e w5 ⟨rfl, hj5⟩
                have HJ5 := Lib.hid hj5
                obtain ⟨e0, e1, e2⟩ := hj5.cells
                have Hx := Lib.hid (HJ5.out.callX fun F h => HX.out _ _ _ _ _ h)
                clear hj5 e0 jd1 jd2
                go_wp2_with fail
                refine hK.out _ _ ?_ (fun hHeld => ?_)
                · exact ⟨e1, e2⟩
                clear hK K
                (try simp only [Act.put, List.setIfInBounds_toArray, List.set_cons_zero, List.set_cons_succ])
                refine wpAnyH_ready (rs := [11]) (by kernel_rfl) (by simp) ?_
                refine AllReadyH.cons (o := ⟨some 108, _, _, _, _, _⟩) rfl (fun K hK => ?_) ?_
                · go_simp
                  (with_reducible refine (Hx.out).mono ?_)
                  rintro e w6 ⟨rfl, hj6⟩
                  obtain ⟨g0, g1, g2⟩ := hj6.cells
                  have HY := Lib.hid (PI.of hj6 HI2.out HDs.out)
                  clear hj6 g0 e1 e2
                  go_wp2_with fail
                  refine hK.out _ _ ?_ (fun hHeld => ?_)
                  · exact ⟨g1, g2⟩
                  clear hK K
                  (try simp only [Act.put, List.setIfInBounds_toArray, List.set_cons_zero, List.set_cons_succ])
                  refine wpAnyH_take (i := 12) (oi := ⟨some 109, _, _, _, _, _⟩) (v := ?_) rfl (by kernel_rfl) (by kernel_rfl) (by kernel_rfl) (fun _ _ _ h => h) (Or.inl ⟨by rfl, ?_⟩) (by assumption) ?_
                  rotate_left
                  · intro w hSw
                    (try dsimp only at hSw)
                    go_simp
                    (try with_reducible rfl)
                  (try simp only [Act.put, List.setIfInBounds_toArray, List.set_cons_zero, List.set_cons_succ])
                  refine wpAnyH_take (i := 13) (oi := ⟨some 10, _, _, _, _, _⟩) (v := ?_) rfl (by kernel_rfl) (by kernel_rfl) (by kernel_rfl) (fun _ _ _ h => h) (Or.inl ⟨by rfl, ?_⟩) (by assumption) ?_
                  rotate_left
                  · intro w hSw
                    (try dsimp only at hSw)
                    go_simp
                    (try with_reducible rfl)
                  (try simp only [Act.put, List.setIfInBounds_toArray, List.set_cons_zero, List.set_cons_succ])
                  refine wpAnyH_done (by kernel_rfl) ?_ _
                  go_wp2
                  go_meet
                  exact ⟨by first | rfl | simp, HY.out⟩
                exact AllReadyH.nil
              exact AllReadyH.nil
            --@/v
          ·
            --@v c3
            as_aux_lemma =>
              obtain ⟨er, R', hs', Q', hI2, hA, hX⟩ := release_both HI.out hN2 xz
              have HJd : Hid (PJ w w4.drew p d x g qb 3 xz xn R Q D R Q) := Lib.hid (HJ.out.below (Below.refl _ w4).drew)
              have Hc := Lib.hid (HJd.out.callA fun H h => hA _ _ _ _ _ _ h)
              have HI2 := Lib.hid hI2
              have HX := Lib.hid hX
              clear hI2 hA hX
              go_upto_region 20 with (fail)
              obtain ⟨jd0, jd1, jd2⟩ := HJd.out.cells
              clear q0 q1 q2 jd0 jd2
              refine wp_region_held_drew (S := fun w' => w'.cell? ⟨qb, 1, none⟩ = some (.int .i64 xz)) (by kernel_rfl) jd1 (fun hHeld => ?_)
              refine wpAnyH_take (i := 0) (oi := ⟨some 112, _, _, _, _, _⟩) (v := ?_) rfl (by kernel_rfl) (by kernel_rfl) (by kernel_rfl) (fun _ _ _ h => h) (Or.inl ⟨by rfl, ?_⟩) (by assumption) ?_
              rotate_left
              · intro w hSw
                (try dsimp only at hSw)
                go_simp
                (try with_reducible rfl)
              (try simp only [Act.put, List.setIfInBounds_toArray, List.set_cons_zero, List.set_cons_succ])
              refine wpAnyH_take (i := 1) (oi := ⟨some 113, _, _, _, _, _⟩) (v := ?_) rfl (by kernel_rfl) (by kernel_rfl) (by kernel_rfl) (fun _ _ _ h => h) (Or.inl ⟨by rfl, ?_⟩) (by assumption) ?_
              rotate_left
              · intro w hSw
                (try dsimp only at hSw)
                go_simp
                (try with_reducible rfl)
              (try simp only [Act.put, List.setIfInBounds_toArray, List.set_cons_zero, List.set_cons_succ])
              refine wpAnyH_take (i := 2) (oi := ⟨some 114, _, _, _, _, _⟩) (v := ?_) rfl (by kernel_rfl) (by kernel_rfl) (by kernel_rfl) (fun _ _ _ h => h) (Or.inl ⟨by rfl, ?_⟩) (by assumption) ?_
              rotate_left
              · intro w hSw
                (try dsimp only at hSw)
                go_simp
                (try with_reducible rfl)
              (try simp only [Act.put, List.setIfInBounds_toArray, List.set_cons_zero, List.set_cons_succ])
              refine wpAnyH_take (i := 4) (oi := ⟨some 116, _, _, _, _, _⟩) (v := ?_) rfl (by kernel_rfl) (by kernel_rfl) (by kernel_rfl) (fun _ _ _ h => h) (Or.inl ⟨by rfl, ?_⟩) (by assumption) ?_
              rotate_left
              · intro w hSw
                (try dsimp only at hSw)
                go_simp
                (try with_reducible rfl)
              (try simp only [Act.put, List.setIfInBounds_toArray, List.set_cons_zero, List.set_cons_succ])
              refine wpAnyH_take (i := 5) (oi := ⟨some 117, _, _, _, _, _⟩) (v := ?_) rfl (by kernel_rfl) (by kernel_rfl) (by kernel_rfl) (fun _ _ _ h => h) (Or.inl ⟨by rfl, ?_⟩) (by assumption) ?_
              rotate_left
              · intro w hSw
                (try dsimp only at hSw)
                go_simp
                (try with_reducible rfl)
              (try simp only [Act.put, List.setIfInBounds_toArray, List.set_cons_zero, List.set_cons_succ])
              refine wpAnyH_take (i := 6) (oi := ⟨some 118, _, _, _, _, _⟩) (v := ?_) rfl (by kernel_rfl) (by kernel_rfl) (by kernel_rfl) (fun _ _ _ h => h) (Or.inl ⟨by rfl, ?_⟩) (by assumption) ?_
              rotate_left
              · intro w hSw
                (try dsimp only at hSw)
                go_simp
                (try with_reducible rfl)
              (try simp only [Act.put, List.setIfInBounds_toArray, List.set_cons_zero, List.set_cons_succ])
              refine wpAnyH_ready (rs := [3]) (by kernel_rfl) (by simp) ?_
              refine AllReadyH.cons (o := ⟨some 115, _, _, _, _, _⟩) rfl (fun K hK => ?_) ?_
              · go_simp
                (with_reducible refine (Hc.out).mono ?_)
                rintro e w5 ⟨rfl, hj5⟩
                have HJ5 := Lib.hid hj5
                obtain ⟨e0, e1, e2⟩ := hj5.cells
                have Hx := Lib.hid (HJ5.out.callX fun F h => HX.out _ _ _ _ _ h)
                clear hj5 e0 e2 jd1
                go_wp2_with fail
                refine hK.out _ _ ?_ (fun hHeld => ?_)
                · exact e1
                clear hK K
                (try simp only [Act.put, List.setIfInBounds_toArray, List.set_cons_zero, List.set_cons_succ])
                refine wpAnyH_ready (rs := [7]) (by kernel_rfl) (by simp) ?_
                refine AllReadyH.cons (o := ⟨some 119, _, _, _, _, _⟩) rfl (fun K hK => ?_) ?_
                · go_simp
                  (with_reducible refine (Hx.out).mono ?_)
                  rintro e w6 ⟨rfl, hj6⟩
                  obtain ⟨g0, g1, g2⟩ := hj6.cells
                  have HY := Lib.hid (PI.of hj6 HI2.out HDs.out)
                  clear hj6 g0 g2 e1
                  go_wp2_with fail
                  refine hK.out _ _ ?_ (fun hHeld => ?_)
                  · exact g1
                  clear hK K
                  (try simp only [Act.put, List.setIfInBounds_toArray, List.set_cons_zero, List.set_cons_succ])
                  refine wpAnyH_take (i := 8) (oi := ⟨some 120, _, _, _, _, _⟩) (v := ?_) rfl (by kernel_rfl) (by kernel_rfl) (by kernel_rfl) (fun _ _ _ h => h) (Or.inl ⟨by rfl, ?_⟩) (by assumption) ?_
                  rotate_left
                  · intro w hSw
                    (try dsimp only at hSw)
                    go_simp
                    (try with_reducible rfl)
                  (try simp only [Act.put, List.setIfInBounds_toArray, List.set_cons_zero, List.set_cons_succ])
                  refine wpAnyH_take (i := 9) (oi := ⟨some 10, _, _, _, _, _⟩) (v := ?_) rfl (by kernel_rfl) (by kernel_rfl) (by kernel_rfl) (fun _ _ _ h => h) (Or.inl ⟨by rfl, ?_⟩) (by assumption) ?_
                  rotate_left
                  · intro w hSw
                    (try dsimp only at hSw)
                    go_simp
                    (try with_reducible rfl)
                  (try simp only [Act.put, List.setIfInBounds_toArray, List.set_cons_zero, List.set_cons_succ])
                  refine wpAnyH_done (by kernel_rfl) ?_ _
                  go_wp2
                  go_meet
                  exact ⟨by first | rfl | simp, HY.out⟩
                exact AllReadyH.nil
              exact AllReadyH.nil
            --@/v
          ·
            --@v c4
            as_aux_lemma =>
              cases Q with
              | nil =>
                have Hc := Lib.hid (HJ.out.callS fun H h => h.reset_nil)
                go_wp2_with fail; (with_reducible refine (Hc.out).mono ?_); rintro e w5 ⟨rfl, rfl⟩
                obtain ⟨xv, y0, y1, y2, y3, yo, yl⟩ := HJ.out.look
                obtain ⟨xa, xc, rfl, _, _, _⟩ := yo.shape
                have HX := Lib.hid (PI.of HJ.out HI.out HDs.out)
                simp only [List.length_nil] at y1
                clear yo yl q0 q1 q2 Hc
                go_wp2
                go_meet
                exact ⟨by first | rfl | simp, HX.out⟩
              | cons z Q2 =>
                obtain ⟨n, hn, hze, h6⟩ := HI.out.q z List.mem_cons_self
                subst hze
                have hrz := HJ.out.reset HI.out hn h6 ⟨HDN.out.1, Nat.le_trans HDN.out.2 (by omega)⟩
                have HDz : Hid (DN (zrst D n).1 N (m + 1)) := Lib.hid (zrst_dn HDN.out n)
                clear h6
                generalize zrst D n = zr at *
                rcases hrz with ⟨ed, ez, hI2, hcl⟩ | ⟨ed, hcl⟩
                · have HI2 := Lib.hid hI2
                  have Hcl := Lib.hid hcl
                  have HEd := Lib.hid ed
                  have HEz := Lib.hid ez
                  clear hI2 hcl ed ez
                  go_wp2_with fail; (with_reducible refine (Hcl.out).mono ?_); rintro e w5 ⟨rfl, hj5⟩
                  have HJ5 := Lib.hid hj5
                  have Hdw := Lib.hid (HJ5.out.callS fun H h => h.down)
                  rw [HEd.out] at Hdw
                  have Hst := Lib.hid (HJ5.out.callS fun H h => h.state (n : Int))
                  rw [HEz.out] at Hst
                  obtain ⟨xv, y0, y1, y2, y3, yo, yl⟩ := HJ5.out.look
                  obtain ⟨xa, xc, rfl, _, _, _⟩ := yo.shape
                  obtain ⟨gq, off, rfl, hl1, hlc, hcm, yq, hot⟩ := yo.tail
                  have hR4 := yl
                  clear yo hot hj5 Hcl yl q0 q1 q2
                  go_wp2_with fail; (with_reducible refine (Hdw.out).mono ?_); rintro e w6 ⟨rfl, rfl⟩
                  go_wp2_with fail; (with_reducible refine (Hst.out).mono ?_); rintro e w6 ⟨rfl, rfl⟩
                  go_upto_region 24 with (fail)
                  have HJ6 : Hid (PJ w w5.drew p d x g qb 4 xz xn (R.set n 0) Q2 zr.1 R ((n : Int) :: Q2)) := Lib.hid (HJ5.out.below (Below.refl _ w5).drew)
                  have z0 : w5.drew.cell? ⟨x, 0, none⟩ = _ := y0
                  have z1 : w5.drew.cell? ⟨x, 1, none⟩ = _ := y1
                  have zq : w5.drew.cell? ⟨gq, off, none⟩ = _ := yq
                  obtain ⟨zr1, zf⟩ := HJ6.out.cellR n hn
                  obtain ⟨ks1, ks2, ks3⟩ := HJ6.out.setR_keeps z1 n 0
                  have KS := Lib.hid (And.intro ((ks1 0).trans z0) (And.intro ((ks1 1).trans z1) ((ks3 gq rfl off).trans zq)))
                  have KS2 := Lib.hid ks2
                  have HJ7 := Lib.hid (HJ6.out.setR n 0)
                  clear y0 y1 y2 y3 yq ks1 ks2 ks3 hcm
                  generalize hRn : R[n] = yn at *
                  clear hRn
                  refine wp_region_held_drew (S := fun w' => w'.cell? ⟨x, 0, none⟩ = some (.slice (some ⟨g, 0, none⟩) R.length R.length) ∧ w'.cell? ⟨x, 1, none⟩ = some (.slice (some ⟨gq, off, none⟩) ((n : Int) :: Q2).length xc) ∧ w'.cell? ⟨gq, off, none⟩ = some (.int .i64 n)) (by kernel_rfl) ⟨z0, z1, zq⟩ (fun hHeld => ?_)
                  refine wpAnyH_take (i := 0) (oi := ⟨some 147, _, _, _, _, _⟩) (v := ?_) rfl (by kernel_rfl) (by kernel_rfl) (by kernel_rfl) (fun _ _ _ h => h) (Or.inl ⟨by rfl, ?_⟩) (by assumption) ?_
                  rotate_left
                  · intro w hSw
                    (try dsimp only at hSw)
                    go_simp
                    (try with_reducible rfl)
                  (try simp only [Act.put, List.setIfInBounds_toArray, List.set_cons_zero, List.set_cons_succ])
                  refine wpAnyH_take (i := 1) (oi := ⟨some 148, _, _, _, _, _⟩) (v := ?_) rfl (by kernel_rfl) (by kernel_rfl) (by kernel_rfl) (fun _ _ _ h => h) (Or.inl ⟨by rfl, ?_⟩) (by assumption) ?_
                  rotate_left
                  · intro w hSw
                    (try dsimp only at hSw)
                    go_simp
                    (try with_reducible rfl)
                  (try simp only [Act.put, List.setIfInBounds_toArray, List.set_cons_zero, List.set_cons_succ])
                  refine wpAnyH_take (i := 2) (oi := ⟨some 149, _, _, _, _, _⟩) (v := ?_) rfl (by kernel_rfl) (by kernel_rfl) (by kernel_rfl) (fun _ _ _ h => h) (Or.inl ⟨by rfl, ?_⟩) (by assumption) ?_
                  rotate_left
                  · intro w hSw
                    (try dsimp only at hSw)
                    go_simp
                    (try with_reducible rfl)
                  (try simp only [Act.put, List.setIfInBounds_toArray, List.set_cons_zero, List.set_cons_succ])
                  refine wpAnyH_take (i := 3) (oi := ⟨some 150, _, _, _, _, _⟩) (v := ?_) rfl (by kernel_rfl) (by kernel_rfl) (by kernel_rfl) (fun _ _ _ h => h) (Or.inl ⟨by rfl, ?_⟩) (by assumption) ?_
                  rotate_left
                  · intro w hSw
                    (try dsimp only at hSw)
                    go_simp
                    (try with_reducible rfl)
                  (try simp only [Act.put, List.setIfInBounds_toArray, List.set_cons_zero, List.set_cons_succ])
                  refine wpAnyH_take (i := 4) (oi := ⟨some 151, _, _, _, _, _⟩) (v := ?_) rfl (by kernel_rfl) (by kernel_rfl) (by kernel_rfl) (fun _ _ _ h => h) (Or.inl ⟨by rfl, ?_⟩) (by assumption) ?_
                  rotate_left
                  · intro w hSw
                    (try dsimp only at hSw)
                    go_simp
                    (try with_reducible rfl)
                  (try simp only [Act.put, List.setIfInBounds_toArray, List.set_cons_zero, List.set_cons_succ])
                  refine wpAnyH_take (i := 5) (oi := ⟨some 152, _, _, _, _, _⟩) (v := ?_) rfl (by kernel_rfl) (by kernel_rfl) (by kernel_rfl) (fun _ _ _ h => h) (Or.inl ⟨by rfl, ?_⟩) (by assumption) ?_
                  rotate_left
                  · intro w hSw
                    (try dsimp only at hSw)
                    go_simp
                    (try with_reducible rfl)
                  (try simp only [Act.put, List.setIfInBounds_toArray, List.set_cons_zero, List.set_cons_succ])
                  refine wpAnyH_take (i := 6) (oi := ⟨some 153, _, _, _, _, _⟩) (v := ?_) rfl (by kernel_rfl) (by kernel_rfl) (by kernel_rfl) (fun _ _ _ h => h) (Or.inl ⟨by rfl, ?_⟩) (by assumption) ?_
                  rotate_left
                  · intro w hSw
                    (try dsimp only at hSw)
                    go_simp
                    (try with_reducible rfl)
                  (try simp only [Act.put, List.setIfInBounds_toArray, List.set_cons_zero, List.set_cons_succ])
                  refine wpAnyH_take (i := 7) (oi := ⟨some 154, _, _, _, _, _⟩) (v := ?_) rfl (by kernel_rfl) (by kernel_rfl) (by kernel_rfl) (fun _ _ _ h => h) (Or.inl ⟨by rfl, ?_⟩) (by assumption) ?_
                  rotate_left
                  · intro w hSw
                    (try dsimp only at hSw)
                    go_simp
                    (try with_reducible rfl)
                  (try simp only [Act.put, List.setIfInBounds_toArray, List.set_cons_zero, List.set_cons_succ])
                  refine wpAnyH_take (i := 8) (oi := ⟨some 155, _, _, _, _, _⟩) (v := ?_) rfl (by kernel_rfl) (by kernel_rfl) (by kernel_rfl) (fun _ _ _ h => h) (Or.inl ⟨by rfl, ?_⟩) (by assumption) ?_
                  rotate_left
                  · intro w hSw
                    (try dsimp only at hSw)
                    go_simp
                    (try with_reducible rfl)
                  (try simp only [Act.put, List.setIfInBounds_toArray, List.set_cons_zero, List.set_cons_succ])
                  refine wpAnyH_take (i := 9) (oi := ⟨some 156, _, _, _, _, _⟩) (v := ?_) rfl (by kernel_rfl) (by kernel_rfl) (by kernel_rfl) (fun _ _ _ h => h) (Or.inl ⟨by rfl, ?_⟩) (by assumption) ?_
                  rotate_left
                  · intro w hSw
                    (try dsimp only at hSw)
                    go_simp
                    (try with_reducible rfl)
                  (try simp only [Act.put, List.setIfInBounds_toArray, List.set_cons_zero, List.set_cons_succ])
                  refine wpAnyH_take (i := 10) (oi := ⟨some 157, _, _, _, _, _⟩) (v := ?_) rfl (by kernel_rfl) (by kernel_rfl) (by kernel_rfl) (fun _ _ _ h => h) (Or.inl ⟨by rfl, ?_⟩) (by assumption) ?_
                  rotate_left
                  · intro w hSw
                    (try dsimp only at hSw)
                    go_simp
                    (try with_reducible rfl)
                  (try simp only [Act.put, List.setIfInBounds_toArray, List.set_cons_zero, List.set_cons_succ])
                  refine wpAnyH_ready (rs := [11]) (by kernel_rfl) (by simp) ?_
                  refine AllReadyH.cons (o := ⟨none, _, _, _, _, _⟩) rfl (fun K hK => ?_) ?_
                  · go_simp
                    refine hK.out _ _ ?_ (fun hHeld => ?_)
                    · exact KS.out
                    clear hK K
                    (try simp only [Act.put, List.setIfInBounds_toArray, List.set_cons_zero, List.set_cons_succ])
                    refine wpAnyH_done (by kernel_rfl) ?_ _
                    have HV : Hid (∀ W, PJ w W p d x g qb 4 xz xn (R.set n 0) Q2 zr.1 (R.set n 0) ((n : Int) :: Q2) → W.cell? ⟨x, 1, none⟩ = some (.slice (some ⟨gq, off, none⟩) ((n : Int) :: Q2).length xc) → OR W w.heap.size (if 1 < xc then .slice (some ⟨gq, off + 1, none⟩) (((n : Int) :: Q2).length - 1) (xc - 1) else .slice (some ⟨gq, off, none⟩) 0 0) Q2) := Lib.hid fun W hW hw1 => by
                      obtain ⟨v', _, m1, _, _, mo, _⟩ := hW.look
                      rw [hw1] at m1
                      obtain rfl := Option.some.inj m1
                      obtain ⟨gq', off', e, _, _, _, _, ht⟩ := mo.tail
                      simp only [Option.some.injEq, Addr.mk.injEq, and_true] at e
                      obtain ⟨rfl, rfl⟩ := e
                      exact ht
                    clear z0 z1 zq zr1 zf hHeld
                    go_upto_region 25 with (fail)
                    refine gen_wp (fun W => PJ w W p d x g qb 4 xz xn (R.set n 0) Q2 zr.1 (R.set n 0) ((n : Int) :: Q2) ∧ W.cell? ⟨x, 1, none⟩ = some (.slice (some ⟨gq, off, none⟩) ((n : Int) :: Q2).length xc) ∧ W.frozen? ⟨x, 1, none⟩ = false) ⟨HJ7.out, KS.out.2.1, KS2.out⟩ ?_
                    rintro W ⟨hW, m1, m3⟩
                    have hot := HV.out W hW m1
                    have HW := Lib.hid hW
                    clear hW HV KS KS2 HJ7 HJ6
                    rcases (by omega : 1 < xc ∨ xc = 1) with h1c | rfl
                    · rw [if_pos h1c] at hot
                      have HX := Lib.hid (PI.of (HW.out.setQ m1 hot fun k hk => by simpa [Value.ownBlock] using hk) HI2.out HDz.out)
                      clear hot
                      simp only [List.length_cons, Nat.add_sub_cancel] at HX m1 hl1 hlc
                      go_wp2
                      go_meet
                      exact ⟨by first | rfl | simp, HX.out⟩
                    · rw [if_neg (by decide)] at hot
                      have HX := Lib.hid (PI.of (HW.out.setQ m1 hot fun k hk => by simpa [Value.ownBlock] using hk) HI2.out HDz.out)
                      clear hot
                      have hQ2 : Q2 = [] := List.eq_nil_of_length_eq_zero (by simp only [List.length_cons] at hlc; omega)
                      subst hQ2
                      simp only [List.length_cons, List.length_nil] at m1
                      go_wp2
                      go_meet
                      exact ⟨by first | rfl | simp, HX.out⟩
                  exact AllReadyH.nil
                · have Hcl := Lib.hid hcl
                  have HEd := Lib.hid ed
                  clear hcl ed
                  go_wp2_with fail; (with_reducible refine (Hcl.out).mono ?_); rintro e w5 ⟨rfl, hj5⟩
                  have HJ5 := Lib.hid hj5
                  have Hdw := Lib.hid (HJ5.out.callS fun H h => h.down)
                  rw [HEd.out] at Hdw
                  obtain ⟨xv, y0, y1, y2, y3, yo, yl⟩ := HJ5.out.look
                  obtain ⟨xa, xc, rfl, _, _, _⟩ := yo.shape
                  have HX := Lib.hid (PI.of HJ5.out HI.out HDz.out)
                  have hlb : (((n : Int) :: Q2).length : Int) ≠ 0 := by simp; omega
                  clear yo yl q0 q1 q2 hj5 Hcl
                  go_wp2_with fail; (with_reducible refine (Hdw.out).mono ?_); rintro e w6 ⟨rfl, rfl⟩
                  go_wp2
                  go_meet
                  exact ⟨by first | rfl | simp, HX.out⟩
            --@/v
          ·
            --@v c5
            as_aux_lemma =>
              have hrl := (HJ.out.rl).1
              have hql := ainv_ql HI.out
              obtain ⟨xv0, y0, y1, y2, y3, yo, yl⟩ := HJ.out.look
              have HRB := Lib.hid (And.intro hrl (And.intro hql yl))
              clear q0 q1 q2 y1 y2 y3 yo yl
              go_wp2
              go_loopw [17, 195] (fun c i wr => ∃ (k : Nat) (hs' : List Bool), k ≤ R.length ∧ i = .int .i64 k ∧ c = .int .i64 ((rbl D (places R 0 k)).length : Nat) ∧ AInv N (setAll R (rbl D (places R 0 k))) hs' (rbq D Q (places R 0 k)) ∧ PJ w wr p d x g qb 5 xz xn R Q D (setAll R (rbl D (places R 0 k))) (rbq D Q (places R 0 k))) (fun _ i _ => R.length - (intOf i).toNat)
              case atStart =>
                obtain ⟨e1, e2, e3⟩ := rb_zero R Q D
                exact ⟨0, hs, Nat.zero_le _, rfl, by rw [e1]; rfl, by rw [e2, e3]; exact HI.out, by rw [e2, e3]; exact HJ.out⟩
              case round =>
                clear y0
                obtain ⟨k, hs', hk, rfl, rfl, hI', hJ'⟩ := hrel
                have HI' := Lib.hid hI'
                have HJ' := Lib.hid hJ'
                have hcl := rbl_len (R := R) (D := D) (z := k)
                clear hI' hJ'
                by_cases hlt : k < R.length
                · have hk1 : k < (setAll R (rbl D (places R 0 k))).length := by rw [setAll_len]; exact hlt
                  obtain ⟨c0, f0⟩ := HJ'.out.cellR k hk1
                  have hat := rb_at (D := D) hlt hk1
                  rw [hat] at c0
                  have hgd : R.getD k 0 = R[k] := getD_at hlt
                  have hst := HJ'.out.callS fun H h => h.state (k : Int)
                  by_cases hv : R[k] = 0
                  · have HAT := Lib.hid (hat.trans hv)
                    rw [hv] at c0 hgd
                    clear hat hv
                    by_cases hp : 0 < zst D k
                    · have hm := rb_more (D := D) hgd hp
                      have hI2 := HI'.out.six k hk1 HAT.out
                      have HE : Hid ((rbl D (places R 0 (k + 1))).length = (rbl D (places R 0 k)).length + 1 ∧ setAll R (rbl D (places R 0 (k + 1))) = (setAll R (rbl D (places R 0 k))).set k 6 ∧ rbq D Q (places R 0 (k + 1)) = rbq D Q (places R 0 k) ++ [(k : Int)]) := Lib.hid ⟨by rw [hm, List.length_append]; rfl, by rw [hm, setAll_snoc], rbq_more hm⟩
                      have HI2 := Lib.hid hI2
                      have Hst := Lib.hid hst
                      have hq1 : (rbq D Q (places R 0 k)).length ≤ 1000000 := by
                        unfold rbq; rw [List.length_append, List.length_map]; have := HRB.out; omega
                      have hr1 : (setAll R (rbl D (places R 0 k))).length = R.length := setAll_len _ _
                      clear hm hI2 hst hgd HAT
                      obtain ⟨xv, y0, y1, y2, y3, yo, yl⟩ := HJ'.out.look
                      obtain ⟨xa, xc, rfl, _, _, _⟩ := yo.shape
                      generalize rbq D Q (places R 0 k) = Q1 at *
                      generalize setAll R (rbl D (places R 0 k)) = R1 at *
                      generalize (rbl D (places R 0 k)).length = cn at *
                      generalize zst D k = sv at *
                      clear yo
                      go_wp2_with fail; (with_reducible refine (Hst.out).mono ?_); rintro e wr ⟨rfl, rfl⟩
                      go_upto_region 37 with (fail)
                      refine gen_wp (fun W => PJ w W p d x g qb 5 xz xn R Q D (R1.set k 6) Q1 ∧ W.cell? ⟨x, 1, none⟩ = some (.slice xa Q1.length xc)) ⟨HJ'.out.setR k 6, ((HJ'.out.setR_keeps y1 k 6).1 1).trans y1⟩ ?_
                      rintro W ⟨hW, m1⟩
                      have HW := Lib.hid hW
                      have hbz : w.heap.size ≤ W.heap.size := hW.rl.2.2
                      obtain ⟨xv, _, m1', _, _, mo, _⟩ := hW.look
                      rw [m1] at m1'
                      obtain rfl := Option.some.inj m1'
                      have HQ := Lib.hid mo
                      have HY : Hid (∀ v2 w2, OR w2 w.heap.size v2 (Q1 ++ [(k : Int)]) → Chg (fun y => (Value.slice xa Q1.length xc).ownBlock = some y) W w2 → (v2.ownBlock = (Value.slice xa Q1.length xc).ownBlock ∨ ∃ q, v2.ownBlock = some q ∧ W.heap.size ≤ q) → (∃ u, w2.cell? ⟨x, 1, none⟩ = some u) ∧ w2.frozen? ⟨x, 1, none⟩ = false ∧ PJ w (w2.setCell ⟨x, 1, none⟩ v2) p d x g qb 5 xz xn R Q D (R1.set k 6) (Q1 ++ [(k : Int)])) := Lib.hid fun v2 w2 ho h2 h3 => HW.out.appQ m1 ho h2 h3
                      clear hW mo y0 y1 y2 y3 c0 f0 yl m1'
                      go_wp2_with (at_builtin; go_loud (refine wpList_appO rfl (.tmp 218) (.tmp 220) rfl w.heap.size _ Q1 rfl HQ.out (k : Int) (by first | rfl | (simp; done) | (simp; rfl)) hq1 hbz ?_); intro v2 w2 ho2 hc2 hl2 hs2; have hx := HY.out _ _ ho2 hc2 hl2; obtain ⟨a2, c2, rfl⟩ := hs2; obtain ⟨⟨xu, n0⟩, n1, hxo⟩ := hx; have HXO := Lib.hid hxo; clear ho2 hc2 hl2 hxo)
                      go_roundw
                      case rel => exact ⟨k + 1, hs'.set k true, by omega, by go_num, by rw [HE.out.1]; go_num, by rw [HE.out.2.1, HE.out.2.2]; exact HI2.out, by rw [HE.out.2.1, HE.out.2.2]; exact HXO.out⟩
                      case measure => simp [intOf]; omega
                    · have hm := rb_empty (D := D) hgd hp
                      have HE : Hid (rbl D (places R 0 (k + 1)) = rbl D (places R 0 k)) := Lib.hid hm
                      have Hst := Lib.hid hst
                      have hpb : decide (0 < zst D k) = false := decide_eq_false hp
                      obtain ⟨xv, y0, y1, y2, y3, yo, yl⟩ := HJ'.out.look
                      clear hm hst hgd hp yo HAT
                      generalize hcn : (rbl D (places R 0 k)).length = cn at *
                      have HCn := Lib.hid hcn
                      clear hcn
                      generalize zst D k = sv at *
                      go_wp2_with fail; (with_reducible refine (Hst.out).mono ?_); rintro e wr ⟨rfl, rfl⟩
                      go_wp2
                      go_roundw
                      case rel => exact ⟨k + 1, hs', by omega, by go_num, by rw [HE.out, HCn.out], by rw [HE.out, rbq_none HE.out]; exact HI'.out, by rw [HE.out, rbq_none HE.out]; exact HJ'.out⟩
                      case measure => simp [intOf]; omega
                  · have HE : Hid (rbl D (places R 0 (k + 1)) = rbl D (places R 0 k)) := Lib.hid (rb_none (by rw [hgd]; exact hv))
                    have hvb : (R[k] == 0) = false := by rw [beq_eq_false_iff_ne]; exact hv
                    obtain ⟨xv, y0, y1, y2, y3, yo, yl⟩ := HJ'.out.look
                    clear hst hgd hv yo hat
                    generalize hcn : (rbl D (places R 0 k)).length = cn at *
                    have HCn := Lib.hid hcn
                    clear hcn
                    generalize R[k] = yv at *
                    go_wp2
                    go_roundw
                    case rel => exact ⟨k + 1, hs', by omega, by go_num, by rw [HE.out, HCn.out], by rw [HE.out, rbq_none HE.out]; exact HI'.out, by rw [HE.out, rbq_none HE.out]; exact HJ'.out⟩
                    case measure => simp [intOf]; omega
                · obtain rfl : k = R.length := by omega
                  have Hrb := Lib.hid (HJ'.out.callA fun H h => h.rebuild (by have := HRB.out; omega))
                  have hql2 : (rbl D (places R 0 R.length)).length ≤ 64 := by have := HRB.out; omega
                  have hI3 := HI'.out
                  unfold rbq at hI3 Hrb
                  have HI3 := Lib.hid hI3
                  clear hI3 hcl
                  generalize (rbl D (places R 0 R.length)).length = cn at *
                  go_wp2_with fail; (with_reducible refine (Hrb.out).mono ?_); rintro e w6 ⟨rfl, hj6⟩
                  have HX := Lib.hid (PI.of hj6 HI3.out HDs.out)
                  clear hj6 Hrb
                  go_wp2
                  go_meet
                  exact ⟨by first | rfl | simp, HX.out⟩
            --@/v
          ·
            --@v c6
            as_aux_lemma =>
              have hb5 : Below w4.heap.size w4 (w4.alloc (.cells #[.int .u8 1] 5)) := (Below.refl _ w4).alloc (Nat.le_refl _) _
              have HJ5 := Lib.hid (HJ.out.below hb5)
              have Hap := Lib.hid (HJ5.out.callA fun H h => h.append (by have := HDN.out.2; omega) xz (RB.fresh w4 [1] #[.int .u8 1] 5 (0, 0) 1 1 rfl rfl (by decide)) (by decide))
              have HDa : Hid (DN (zapp D xz [1]).1 N (m + 1)) := Lib.hid (zapp_dn HDN.out xz [1])
              generalize zapp D xz [1] = zr at *
              clear hb5
              go_wp2_with fail; (with_reducible refine (Hap.out).mono ?_); rintro e w6 ⟨rfl, hj6⟩
              have HX := Lib.hid (PI.of hj6 HI.out HDa.out)
              clear hj6 q0 q1 q2 Hap
              go_wp2
              go_meet
              exact ⟨by first | rfl | simp, HX.out⟩
            --@/v
          ·
            --@v c7
            as_aux_lemma =>
              obtain ⟨_, _, ho3⟩ := HOk.out
              have Hc := Lib.hid (HJ.out.callA fun H h => h.arm xn ho3)
              have HDa : Hid (DN (zarmd D xn) N (m + 1)) := Lib.hid ⟨HDN.out.1, Nat.le_succ_of_le HDN.out.2⟩
              clear ho3
              go_wp2_with fail; (with_reducible refine (Hc.out).mono ?_); rintro e w5 ⟨rfl, hj5⟩
              have HX := Lib.hid (PI.of hj5 HI.out HDa.out)
              clear hj5 q0 q1 q2 Hc
              go_wp2
              go_meet
              exact ⟨by first | rfl | simp, HX.out⟩
            --@/v
          ·
            --@v c8
            as_aux_lemma =>
              have Hc := Lib.hid (HJ.out.callA fun H h => h.crash)
              have HDa : Hid (DN (zcrs D []) N (m + 1)) := Lib.hid ⟨HDN.out.1, Nat.le_succ_of_le HDN.out.2⟩
              go_wp2_with fail; (with_reducible refine (Hc.out).mono ?_); rintro e w5 ⟨rfl, hj5⟩
              have HX := Lib.hid (PI.of hj5 HI.out HDa.out)
              clear hj5 q0 q1 q2 Hc
              go_wp2
              go_meet
              exact ⟨by first | rfl | simp, HX.out⟩
            --@/v
          ·
            --@v c9
            as_aux_lemma =>
              have HX := Lib.hid (PI.of HJ.out HI.out HDs.out)
              clear q0 q1 q2
              go_wp2
              go_meet
              exact ⟨by first | rfl | simp, HX.out⟩
            --@/v
        case rest =>
          --@v rest
          as_aux_lemma =>
            obtain ⟨rfl, hPI⟩ := hcut
            clear HJ HI HDN HDs HOk q0 q1 q2
            generalize wc = wx at *
            have HPI := Lib.hid hPI
            obtain ⟨H, F, R', hs', Q', D', hA, hX, hd, hI, hDN, hb0⟩ := hPI
            clear R Q D hs
            have HAw : Hid (∀ W, Below wx.heap.size wx W → AT W w.heap.size p d H R' Q' D') := Lib.hid fun W hW => hA.below hW
            have HXw : Hid (∀ W, Below wx.heap.size wx W → XT W w.heap.size x g F R' Q') := Lib.hid fun W hW => hX.below hW
            have hrl := hA.rl
            have hql := ainv_ql hI
            have hxl : ∃ v, wx.cell? ⟨x, 0, none⟩ = some (.slice (some ⟨g, 0, none⟩) R'.length R'.length) ∧ wx.cell? ⟨x, 1, none⟩ = some v ∧ OR wx w.heap.size v Q' ∧ ∀ j (hj : j < R'.length), wx.cell? ⟨g, j, none⟩ = some (.int .i64 R'[j]) := by
              obtain ⟨v, hT, hF⟩ := hX
              obtain ⟨k0, k1, f0, f1⟩ := cell_pair hT.box
              exact ⟨v, k0, k1, hT.q, fun j hj => hT.cell j hj⟩
            obtain ⟨xv, z0, z1, zo, zr⟩ := hxl
            obtain ⟨xa, xc, rfl, _, _, _⟩ := zo.shape
            have HZo := Lib.hid zo.kz
            have HZr := Lib.hid zr
            have HRN := Lib.hid hI.len
            have hqb : Q'.length ≤ 1000000 := by omega
            have Z0 := Lib.hid z0
            clear hA hX hd hI hDN hb0 zo zr
            go_upto_region 47 with (fail)
            have jd1 : wx.drew.cell? ⟨x, 1, none⟩ = _ := z1
            have hbd : Below wx.heap.size wx wx.drew := (Below.refl _ wx).drew
            have Hq := Lib.hid ((HAw.out _ hbd).queue (by omega))
            clear z0 z1
            go_cut [260] from 249 to 260 (fun t W => t = .bool false ∧ Below wx.heap.size wx W)
            case first =>
              refine wp_region_held_drew (S := fun w' => w'.cell? ⟨x, 1, none⟩ = some (.slice xa Q'.length xc)) (by kernel_rfl) jd1 (fun hHeld => ?_)
              refine wpAnyH_take (i := 0) (oi := ⟨some 249, _, _, _, _, _⟩) (v := ?_) rfl (by kernel_rfl) (by kernel_rfl) (by kernel_rfl) (fun _ _ _ h => h) (Or.inl ⟨by rfl, ?_⟩) (by assumption) ?_
              rotate_left
              · intro w hSw
                (try dsimp only at hSw)
                go_simp
                (try with_reducible rfl)
              (try simp only [Act.put, List.setIfInBounds_toArray, List.set_cons_zero, List.set_cons_succ])
              refine wpAnyH_take (i := 1) (oi := ⟨some 250, _, _, _, _, _⟩) (v := ?_) rfl (by kernel_rfl) (by kernel_rfl) (by kernel_rfl) (fun _ _ _ h => h) (Or.inl ⟨by rfl, ?_⟩) (by assumption) ?_
              rotate_left
              · intro w hSw
                (try dsimp only at hSw)
                go_simp
                (try with_reducible rfl)
              (try simp only [Act.put, List.setIfInBounds_toArray, List.set_cons_zero, List.set_cons_succ])
              refine wpAnyH_take (i := 2) (oi := ⟨some 251, _, _, _, _, _⟩) (v := ?_) rfl (by kernel_rfl) (by kernel_rfl) (by kernel_rfl) (fun _ _ _ h => h) (Or.inl ⟨by rfl, ?_⟩) (by assumption) ?_
              rotate_left
              · intro w hSw
                (try dsimp only at hSw)
                go_simp
                (try with_reducible rfl)
              (try simp only [Act.put, List.setIfInBounds_toArray, List.set_cons_zero, List.set_cons_succ])
              refine wpAnyH_take (i := 3) (oi := ⟨some 252, _, _, _, _, _⟩) (v := ?_) rfl (by kernel_rfl) (by kernel_rfl) (by kernel_rfl) (fun _ _ _ h => h) (Or.inl ⟨by rfl, ?_⟩) (by assumption) ?_
              rotate_left
              · intro w hSw
                (try dsimp only at hSw)
                go_simp
                (try with_reducible rfl)
              (try simp only [Act.put, List.setIfInBounds_toArray, List.set_cons_zero, List.set_cons_succ])
              refine wpAnyH_take (i := 5) (oi := ⟨some 254, _, _, _, _, _⟩) (v := ?_) rfl (by kernel_rfl) (by kernel_rfl) (by kernel_rfl) (fun _ _ _ h => h) (Or.inl ⟨by rfl, ?_⟩) (by assumption) ?_
              rotate_left
              · intro w hSw
                (try dsimp only at hSw)
                go_simp
                (try with_reducible rfl)
              (try simp only [Act.put, List.setIfInBounds_toArray, List.set_cons_zero, List.set_cons_succ])
              refine wpAnyH_take (i := 6) (oi := ⟨some 255, _, _, _, _, _⟩) (v := ?_) rfl (by kernel_rfl) (by kernel_rfl) (by kernel_rfl) (fun _ _ _ h => h) (Or.inl ⟨by rfl, ?_⟩) (by assumption) ?_
              rotate_left
              · intro w hSw
                (try dsimp only at hSw)
                go_simp
                (try with_reducible rfl)
              (try simp only [Act.put, List.setIfInBounds_toArray, List.set_cons_zero, List.set_cons_succ])
              refine wpAnyH_take (i := 7) (oi := ⟨some 256, _, _, _, _, _⟩) (v := ?_) rfl (by kernel_rfl) (by kernel_rfl) (by kernel_rfl) (fun _ _ _ h => h) (Or.inl ⟨by rfl, ?_⟩) (by assumption) ?_
              rotate_left
              · intro w hSw
                (try dsimp only at hSw)
                go_simp
                (try with_reducible rfl)
              (try simp only [Act.put, List.setIfInBounds_toArray, List.set_cons_zero, List.set_cons_succ])
              refine wpAnyH_take (i := 8) (oi := ⟨some 257, _, _, _, _, _⟩) (v := ?_) rfl (by kernel_rfl) (by kernel_rfl) (by kernel_rfl) (fun _ _ _ h => h) (Or.inl ⟨by rfl, ?_⟩) (by assumption) ?_
              rotate_left
              · intro w hSw
                (try dsimp only at hSw)
                go_simp
                (try with_reducible rfl)
              (try simp only [Act.put, List.setIfInBounds_toArray, List.set_cons_zero, List.set_cons_succ])
              refine wpAnyH_ready (rs := [4]) (by kernel_rfl) (by simp) ?_
              refine AllReadyH.cons (o := ⟨some 253, _, _, _, _, _⟩) rfl (fun K hK => ?_) ?_
              · go_simp
                (with_reducible refine (Hq.out).mono ?_)
                rintro e w5 ⟨u, rfl, hro, hb5⟩
                obtain ⟨ua, uc, rfl, _⟩ := row_shape hro
                have hd5 : Below wx.heap.size wx w5 := hbd.trans hb5
                have jd2 := cell_next jd1 _ hb5
                have Hin := Lib.hid (al_ints (ca := uc) (cb := xc) (row_kzm hro) (HZo.out.below hd5) rfl hqb)
                clear hro jd1
                go_wp2_with fail
                refine hK.out _ _ ?_ (fun hHeld => ?_)
                · exact jd2
                clear hK K
                (try simp only [Act.put, List.setIfInBounds_toArray, List.set_cons_zero, List.set_cons_succ])
                refine wpAnyH_ready (rs := [9]) (by kernel_rfl) (by simp) ?_
                refine AllReadyH.cons (o := ⟨some 258, _, _, _, _, _⟩) rfl (fun K hK => ?_) ?_
                · go_simp
                  (with_reducible refine (Hin.out).mono ?_)
                  rintro e w6 ⟨rfl, hb6⟩
                  have hd6 : Below wx.heap.size wx w6 := hd5.trans (hb6.mono hd5.size)
                  have jd3 := cell_next jd2 _ hb6
                  go_wp2_with fail
                  refine hK.out _ _ ?_ (fun hHeld => ?_)
                  · exact jd3
                  clear hK K
                  (try simp only [Act.put, List.setIfInBounds_toArray, List.set_cons_zero, List.set_cons_succ])
                  refine wpAnyH_take (i := 10) (oi := ⟨some 259, _, _, _, _, _⟩) (v := ?_) rfl (by kernel_rfl) (by kernel_rfl) (by kernel_rfl) (fun _ _ _ h => h) (Or.inl ⟨by rfl, ?_⟩) (by assumption) ?_
                  rotate_left
                  · intro w hSw
                    (try dsimp only at hSw)
                    go_simp
                    (try with_reducible rfl)
                  (try simp only [Act.put, List.setIfInBounds_toArray, List.set_cons_zero, List.set_cons_succ])
                  refine wpAnyH_take (i := 11) (oi := ⟨some 260, _, _, _, _, _⟩) (v := ?_) rfl (by kernel_rfl) (by kernel_rfl) (by kernel_rfl) (fun _ _ _ h => h) (Or.inl ⟨by rfl, ?_⟩) (by assumption) ?_
                  rotate_left
                  · intro w hSw
                    (try dsimp only at hSw)
                    go_simp
                    (try with_reducible rfl)
                  (try simp only [Act.put, List.setIfInBounds_toArray, List.set_cons_zero, List.set_cons_succ])
                  refine wpAnyH_done (by kernel_rfl) ?_ _
                  go_wp2_with fail
                  go_meet
                  exact ⟨rfl, hd6⟩
                exact AllReadyH.nil
              exact AllReadyH.nil
            case rest =>
              obtain ⟨rfl, hbw⟩ := hcut
              have z0 := cell_next Z0.out _ hbw
              generalize wc = wy at *
              have HBY := Lib.hid hbw
              clear jd1 hbd Hq hbw
              go_wp2
              go_loopw [266] (fun i wr => ∃ k : Nat, k ≤ R'.length ∧ i = .int .i64 k ∧ Below wx.heap.size wx wr) (fun i _ => R'.length - (intOf i).toNat)
              case atStart => exact ⟨0, Nat.zero_le _, rfl, HBY.out⟩
              case round =>
                clear z0
                obtain ⟨k, hk, rfl, hbr⟩ := hrel
                by_cases hlt : k < R'.length
                · have c0 := cell_next (HZr.out k hlt) _ hbr
                  have hro := (HAw.out _ hbr).role (k : Int)
                  rw [roleAt_in hlt] at hro
                  have Hro := Lib.hid hro
                  clear hro
                  generalize R'[k] = y at *
                  go_wp2_with fail; (with_reducible refine (Hro.out).mono ?_); rintro e w6 ⟨rfl, rfl⟩
                  go_wp2
                  go_roundw
                  case rel => exact ⟨k + 1, by omega, by go_num, hbr⟩
                  case measure => simp [intOf]; omega
                · clear HBY
                  have HBY := Lib.hid hbr
                  clear hbr
                  generalize wr = wz at *
                  go_wp2
                  go_loopw [22] (fun i wr => ∃ r : Int, -1 ≤ r ∧ r ≤ 8 ∧ i = .int .i64 r ∧ Below wx.heap.size wx wr) (fun i _ => (8 - intOf i).toNat)
                  case atStart => exact ⟨-1, by decide, by decide, rfl, HBY.out⟩
                  case round =>
                    clear HBY
                    obtain ⟨r, hr1, hr2, rfl, hbr⟩ := hrel
                    by_cases hr8 : r ≤ 7
                    · have Hli := Lib.hid ((HXw.out _ hbr).list r)
                      go_wp2_with fail; (with_reducible refine (Hli.out).mono ?_); rintro e w5 ⟨u, rfl, hro5, hb5⟩
                      have hd5 := hbr.trans (hb5.mono hbr.size)
                      obtain ⟨ua, uc, rfl, _⟩ := row_shape hro5
                      have hco := (HAw.out _ hd5).count r
                      rw [← places_all] at hco
                      have Hco := Lib.hid hco
                      have hpl := places_le R' r R'.length
                      have HRo5 := Lib.hid hro5
                      have HL2 : Hid (∀ W, Below wx.heap.size wx W → Calls Try.prog 22 #[.pointer (some ⟨p, 0, none⟩), .int .i64 r] W fun e w' => ∃ u, e = .returned u ∧ w'.ownsRow W.heap.size 3 1 u (places R' r R'.length).length (nvs (places R' r R'.length)) ∧ Below W.heap.size W w') := Lib.hid fun W hW => (HAw.out _ hW).list r
                      clear hro5 hco Hli
                      generalize places R' r R'.length = L at *
                      go_wp2_with fail; (with_reducible refine (Hco.out).mono ?_); rintro e w6 ⟨rfl, hb6⟩
                      have hd6 := hd5.trans (hb6.mono hd5.size)
                      have Hl2 := Lib.hid (HL2.out _ hd6)
                      have HRo6 := Lib.hid (row_past HRo5.out hb6 (Nat.le_refl _))
                      clear HL2 HRo5 hb5 hb6 Hco
                      go_wp2_with fail; (with_reducible refine (Hl2.out).mono ?_); rintro e w7 ⟨u7, rfl, hro7, hb7⟩
                      have hd7 := hd6.trans (hb7.mono hd6.size)
                      obtain ⟨ua7, uc7, rfl, _⟩ := row_shape hro7
                      have Hin := Lib.hid (al_intsn hro7 (row_past HRo6.out hb7 (Nat.le_refl _)) (by omega))
                      clear hro7 HRo6 Hl2
                      go_wp2_with fail; (with_reducible refine (Hin.out).mono ?_); rintro e w8 ⟨rfl, hb8⟩
                      have hd8 := hd7.trans (hb8.mono hd7.size)
                      go_wp2
                      go_roundw
                      case rel => exact ⟨r + 1, by omega, by omega, by go_num, hd8⟩
                      case measure => simp [intOf]; omega
                    · obtain rfl : r = 8 := by omega
                      have HF := Lib.hid (HPI.out.below hbr)
                      go_wp2
                      go_roundw
                      case rel => exact ⟨m + 1, by omega, by go_num, HF.out⟩
                      case measure => simp [intOf]; omega
          --@/v
      ·
        --@v end
        as_aux_lemma =>
          obtain rfl : m = l.length := by omega
          have HA := Lib.hid hA
          have h1 := hA.role (-1)
          rw [roleAt_out (by omega)] at h1
          have h2 := hA.role (N : Int)
          rw [roleAt_out (by have := HI.out.len; omega)] at h2
          have H1 := Lib.hid h1
          have H2 := Lib.hid h2
          clear hA hX hd hI hDN h1 h2 HI HDN HA
          go_wp2_with fail; (with_reducible refine (H1.out).mono ?_); rintro e w6 ⟨rfl, rfl⟩
          go_wp2_with fail; (with_reducible refine (H2.out).mono ?_); rintro e w6 ⟨rfl, rfl⟩
          go_wp2_with fail; (with_reducible refine (alawake _).mono ?_); rintro e w7 ⟨rfl, hb7⟩
          go_wp2
          go_ret
          exact ⟨rfl, bnext hbr hb7⟩
        --@/v
end Go.Proofs.Ytcgjkgcafkcgoaa
