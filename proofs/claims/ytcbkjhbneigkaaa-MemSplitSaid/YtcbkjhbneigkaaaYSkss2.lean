/- The list at [string, string], part 2 (printed by inst.py). -/
import Derived.StillTailTactics
import Derived.Deep.RegionLaw
import Derived.Test.YtcbkjhbneigkaaaYSkss1
namespace Go.Proofs.Ytcbkjhbneigkaaa.ss
open Go.RowKit
set_option linter.unusedVariables false
set_option linter.unusedSimpArgs false
set_option linter.unusedSectionVars false
theorem infoNode : (Try.prog.info? 91).map (fun i => (i.zero, i.size, i.bytes)) = some (some (.agg #[.string ByteArray.empty, .string ByteArray.empty, .slice none 0 0]), 3, 56) := by kernel_rfl
set_option maxRecDepth 100000 in
set_option maxHeartbeats 4000000 in
theorem put_new_ii {w : World} {B p : Nat} {v : Value} {T : List (SE ByteArray)} (h : SK 91 94 (.string) w B p v T) (hr : TRise blt T) (hl : T.length ≤ 1000000) (hht : ∀ j (hj : j < T.length), 0 < T[j].ht) (k : ByteArray) (y : ByteArray) (ht : Nat) (h1 : 1 ≤ ht) (h2 : ht ≤ 12) (c : Nat) (hc : CutAt blt T k c) (hne : ∀ hlt : c < T.length, T[c].key ≠ k) :
    Calls Try.prog 28 #[.pointer (some ⟨p, 0, none⟩), .string k, .string y, .int .i64 (ht : Nat)] w fun e w' => e = .returned (.tuple #[.bool true, .int .i64 0]) ∧
      ∃ v2 nb, SK 91 94 (.string) w' B p v2 (insT T c ⟨k, .string y, ht, T.length, nb⟩) ∧ Chg (Fp p v T) w w' ∧ w.heap.size ≤ nb ∧ Lies w v v2 := by
  have hfi := find_ii h hr hl hht k c hc 0 (.inr ⟨rfl, hne⟩)
  obtain ⟨h0, hh0, hid0⟩ := level_room h
  obtain ⟨bs, hbs⟩ := found_some (lt := blt) (k := k) h0 hh0 0 (by decide)
  have hbl : bs.length = 12 := by have := hbs.1; omega
  have hbef : ∀ W, Below w.heap.size w W → Calls Try.prog 47 #[.pointer (some ⟨p, 0, none⟩), .string k] W fun e w' => e = .returned (.agg (bvals bs).toArray) ∧ Below W.heap.size W w' := fun W hB => before_ii' (h.below hB) hr hl k _ hbs
  have hfp : ∀ x, Fp p v T x → x < w.heap.size := fun x hx => (h.fp_ge x hx).2
  obtain ⟨g, cv, hv, hc1, hc2, hid, k0, d0, d1, d2, dn⟩ := h.node 0 h0
  have H := Lib.hid h
  have Hfi := Lib.hid hfi
  have Hbef := Lib.hid hbef
  have Hfp := Lib.hid hfp
  have Hbs := Lib.hid hbs
  have HR := Lib.hid hr
  have HC := Lib.hid hc
  have Hv := Lib.hid hv
  have Harr := Lib.hid (arr12 bs hbl)
  have s0 := cell_next k0
  unfold maxLen at hc2
  clear h hfi hbef hfp hbs hr hc hv hne d0 d1 d2 dn k0 hid
  go_enter Try.func28, Try.ntmps28
  go_wp2_with fail; (with_reducible refine (Hfi.out).mono ?_); rintro e w1 ⟨rfl, hb1⟩
  have e0 := s0 _ hb1
  have hw1 := hb1.size
  have HB1 := Lib.hid hb1
  clear hb1
  go_wp2_with (at_make; refine wpList_mki05 rfl (.tmp 41) (.tmp 41) rfl w1.heap.size ht rfl rfl (by omega) (Nat.le_refl _) ?_; intro w2 ho2 hb2; have Ho2 := Lib.hid ho2; have HB2 := Lib.hid hb2; clear ho2 hb2)
  have hw2 := HB2.out.size
  go_upto_region 9 with (fail)
  have hBA : Below w.heap.size w (w2.alloc (.cells #[.string k, .string y, .slice (some ⟨w1.heap.size, 0, none⟩) ht ht] 91)) := (HB1.out.trans (HB2.out.mono hw1)).alloc (by omega) _
  (with_reducible refine (Hbef.out _ hBA).mono ?_)
  rintro e w4 ⟨rfl, hb4⟩
  have hBw : B ≤ w.heap.size := by have := H.out.low; have := blk_lt H.out.box; omega
  have hpj : PJ 91 94 (.string) w w4 B p v T c ⟨k, .string y, ht, T.length, w1.heap.size⟩ w2.heap.size 0 := by
    refine ⟨((H.out.below hBA).below hb4).toJ _ _, ?_, ?_, ?_⟩
    · rw [ownJ_zero]
      exact row_mono (row_past (World.ownsRow.alloc Ho2.out _) hb4 (Nat.le_refl _)) (by omega)
    · exact (hb4.block _ (blk_lt (heap_alloc_new w2 _))).trans (heap_alloc_new w2 _)
    · exact Chg.of_below (hBA.trans (hb4.mono hBA.size))
  have hq : w1.heap.size < w2.heap.size := by have := (World.ownsRow.lt Ho2.out _ rfl).2; exact this
  generalize hnb : w1.heap.size = nb at *
  generalize hqq : w2.heap.size = q at *
  have HPJ := Lib.hid hpj
  have HX : Hid (w.heap.size ≤ nb ∧ nb < q ∧ B ≤ w.heap.size) := Lib.hid ⟨by omega, by omega, hBw⟩
  clear hpj hBA hb4 Ho2 HB2 hw2 hw1 HB1 e0 hBw hq Hbef Hfi hnb hqq s0
  go_wp2
  go_loopw [47] (fun u wr => ∃ j : Nat, j ≤ ht ∧ u = .int .i64 (j : Nat) ∧ PJ 91 94 (.string) w wr B p v T c ⟨k, .string y, ht, T.length, nb⟩ q j) (fun u _ => (12 - intOf u).toNat)
  case atStart => exact ⟨0, Nat.zero_le _, rfl, HPJ.out⟩
  case round =>
    obtain ⟨j, hj, rfl, hpj⟩ := hrel
    have HPJr := Lib.hid hpj
    clear hpj HPJ
    obtain ⟨hx1, hx2, hx3⟩ := HX.out
    by_cases hjt : j = ht
    · subst hjt
      have HP := Lib.hid HPJr.out
      obtain ⟨q0, q1, q2, _, _, _⟩ := cell_three HPJr.out.xb
      have b0 := (cell_one HPJr.out.skj.box).1
      have bq := blk_lt HPJr.out.xb
      have bp := blk_lt HPJr.out.skj.box
      have hCut := HC.out
      have HSK := H.out
      clear HPJr
      have eht : ((j : Int) == (j : Int)) = true := by rw [beq_iff_eq]
      have hpjd : PJ 91 94 (.string) w (wr.alloc (.cells #[.string k, .string y, .slice (some ⟨nb, 0, none⟩) j j] 91)).drew B p v T c ⟨k, .string y, j, T.length, nb⟩ q j := HP.out.below ((Below.refl _ _).alloc (Nat.le_refl _) _).drew
      obtain ⟨xs, hrow, hcl⟩ := hpjd.close (n := ⟨k, .string y, j, T.length, nb⟩) HSK (by decide) (by decide) (by decide) hCut.1 hCut.2.1 hx1 rfl
      obtain ⟨i0, hi, hz0, hz1, hz2⟩ := info_parts infoNode
      have Hrow := Lib.hid hrow
      have Hcl := Lib.hid hcl
      have Hi := Lib.hid hi
      have Hz0 := Lib.hid hz0
      have Hz3 := Lib.hid hz1
      have Hzb := Lib.hid hz2
      have A2 : Hid (∀ jj u, [Value.string k, .string y, .slice (some ⟨nb, 0, none⟩) j j][jj]? = some u → (wr.alloc (.cells #[.string k, .string y, .slice (some ⟨nb, 0, none⟩) j j] 91)).drew.cell? ((⟨wr.heap.size, 0, none⟩ : Addr).add jj) = some u) := Lib.hid (cells_new wr #[.string k, .string y, .slice (some ⟨nb, 0, none⟩) j j] _ _)
      have A4 : Hid (B ≤ (wr.alloc (.cells #[.string k, .string y, .slice (some ⟨nb, 0, none⟩) j j] 91)).drew.heap.size) := Lib.hid (by simp; omega)
      have A5 : T.length + 1 ≤ maxLen := by unfold maxLen; omega
      have A6 : (T.length + 1) * 56 ≤ 140737488355328 := by omega
      have A7 : [Value.string k, .string y, .slice (some ⟨nb, 0, none⟩) j j].length = 1 * 3 := rfl
      have A8 : ∀ u ∈ [Value.string k, .string y, .slice (some ⟨nb, 0, none⟩) j j], u.oneCell' = true := by intro u hu; simp at hu; rcases hu with rfl | rfl | rfl <;> rfl
      clear hpjd hrow hcl hi hz0 hz1 hz2 hCut HSK HP
      obtain rfl := Hv.out
      by_cases e12 : (j : Int) < 12
      · have hjb : j < bs.length := by omega
        have ib := Harr.out j hjb
        generalize bs[j] = bj at *
        go_upto_region 16 with (fail)
        go_region_law (refine step_appG (by rfl) (.tmp 85) (.tmp 87) 92 91 i0 (.agg #[.string ByteArray.empty, .string ByteArray.empty, .slice none 0 0]) 3 56 Try.underlying92 Hi.out Hz0.out Hz3.out Hzb.out rfl (by decide) (by rfl) B (.slice (some ⟨g, 0, none⟩) T.length cv) T.length xs (by rfl) Hrow.out ⟨wr.heap.size, 0, none⟩ 1 1 [Value.string k, .string y, .slice (some ⟨nb, 0, none⟩) j j] (by rfl) A7 A2.out A8 A5 A6 A4.out ?_; intro v2 w2' ho2 ha2; obtain ⟨a2, c2, rfl, _⟩ := row_shape ho2; obtain ⟨z1, z2, z3, z4⟩ := Hcl.out _ _ ho2 ha2; obtain ⟨y0, y1⟩ := cell_one z4; have Z1 := Lib.hid z1; have Z2 := Lib.hid z2; have Z3 := Lib.hid z3; clear z1 z2 z3 z4 ho2 ha2)
        all_goals
          go_wp2
          go_ret2
          exact ⟨rfl, _, _, Z1.out, Z2.out, hx1, Z3.out⟩
      · have e12 : (12 : Int) ≤ (j : Int) := by omega
        go_upto_region 16 with (fail)
        go_region_law (refine step_appG (by rfl) (.tmp 85) (.tmp 87) 92 91 i0 (.agg #[.string ByteArray.empty, .string ByteArray.empty, .slice none 0 0]) 3 56 Try.underlying92 Hi.out Hz0.out Hz3.out Hzb.out rfl (by decide) (by rfl) B (.slice (some ⟨g, 0, none⟩) T.length cv) T.length xs (by rfl) Hrow.out ⟨wr.heap.size, 0, none⟩ 1 1 [Value.string k, .string y, .slice (some ⟨nb, 0, none⟩) j j] (by rfl) A7 A2.out A8 A5 A6 A4.out ?_; intro v2 w2' ho2 ha2; obtain ⟨a2, c2, rfl, _⟩ := row_shape ho2; obtain ⟨z1, z2, z3, z4⟩ := Hcl.out _ _ ho2 ha2; obtain ⟨y0, y1⟩ := cell_one z4; have Z1 := Lib.hid z1; have Z2 := Lib.hid z2; have Z3 := Lib.hid z3; clear z1 z2 z3 z4 ho2 ha2)
        all_goals
          go_wp2
          go_ret2
          exact ⟨rfl, _, _, Z1.out, Z2.out, hx1, Z3.out⟩
    · have hjb : j < bs.length := by omega
      have ib := Harr.out j hjb
      obtain ⟨i, hi, hp, hbi⟩ := Hbs.out.2 j hjb
      rw [Nat.zero_add] at hp
      rw [hbi] at ib
      have hidl := H.out.idlt _ (List.getElem_mem hi)
      have hj1 : j < ht := by omega
      have hst := HPJr.out.drew.step (by decide) (by decide) H.out.apart HC.out (n := ⟨k, .string y, ht, T.length, nb⟩) hj1 hi hp Hfp.out hx1 (by omega) (Nat.ne_of_gt hx2)
      obtain ⟨g2, cv2, hv2, hd1, hd2, a0, a1, a2, a3, a4, a5, a6, a7⟩ := HPJr.out.drew.cells HC.out (n := ⟨k, .string y, ht, T.length, nb⟩) hj1 hi hidl hp
      have hfb : T[i].blk < w.heap.size := Hfp.out _ (.inr (.inr ⟨T[i], List.getElem_mem hi, rfl⟩))
      have hpb : p < w.heap.size := Hfp.out _ (.inl rfl)
      have hgb : g2 < w.heap.size := Hfp.out _ (.inr (.inl (by rw [hv2]; rfl)))
      have hnb1 : T[i].blk ≠ nb := by omega
      have hnb2 : p ≠ nb := by omega
      have hnb3 : g2 ≠ nb := by omega
      have HST := Lib.hid hst
      have e12 : (j : Int) < 12 := by omega
      have eht : ((j : Int) == (ht : Int)) = false := by rw [beq_eq_false_iff_ne]; omega
      have i1 : (0 : Int) ≤ (T[i].id : Nat) := by omega
      have i2 : ((T[i].id : Nat) : Int) < (T.length : Int) := by omega
      have i3 : (j : Int) < (T[i].ht : Nat) := by omega
      have i4 : (j : Int) < (ht : Int) := by omega
      have Hp := Lib.hid hp
      unfold maxLen at hd2
      clear hst hp hbi hfb hpb hgb hv2
      go_upto_region 13 with (fail)
      go_still_tail 15, (by kernel_rfl)
      change wpList _ _ _ _ _ wr.drew
      generalize wr.drew = w5 at *
      go_wp2
      go_roundw
      case rel => exact ⟨j + 1, by omega, by go_num, HST.out⟩
      case measure => simp [intOf]; omega
end Go.Proofs.Ytcbkjhbneigkaaa.ss
