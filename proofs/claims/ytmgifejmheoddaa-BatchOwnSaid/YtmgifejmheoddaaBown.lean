/- BatchOwn: its walk. -/
import Derived.Test.YtmgifejmheoddaaBparPl
import Derived.Test.YtmgifejmheoddaaBaw
import Derived.Test.YtmgifejmheoddaaBsame
namespace Go.Proofs.Ytmgifejmheoddaa
open Go.RowKit
set_option linter.unusedVariables false
set_option linter.unusedSimpArgs false

theorem xorByte (y : UInt8) : Value.int .u8 (bits .xor .u8 (if IntKind.u8.signed = true then -1 else IntKind.u8.max) (y.toNat : Int)) = bv (UInt8.ofNat (255 - y.toNat)) := by
  have h : ∀ x : Fin 256, bits .xor .u8 (if IntKind.u8.signed = true then -1 else IntKind.u8.max) ((x.val : Nat) : Int) = ((255 - x.val : Nat) : Int) := by decide +kernel
  have h2 := h ⟨y.toNat, y.toNat_lt⟩
  have e : (UInt8.ofNat (255 - y.toNat)).toNat = 255 - y.toNat := by rw [toNat_ofNat8]; omega
  unfold bv
  rw [e]
  exact congrArg _ h2
theorem ops_chg {F : Nat → Prop} {w w' : World} {a : Option Addr} {l : List OpD} (h : OPs w a l) (hc : Chg F w w') (hn : 0 < l.length → ∀ b off, a = some ⟨b, off, none⟩ → ¬ F b) : OPs w' a l := by
  refine ⟨fun hl => ?_, h.2⟩
  obtain ⟨b, off, e, hcell⟩ := h.1 hl
  refine ⟨b, off, e, fun i hi => ?_⟩
  obtain ⟨h0, h1, h2⟩ := hcell i hi
  have hb := World.block_lt_of_cell? w _ h0
  have hh := hc.block b hb (hn hl b off e)
  have hs : ∀ o, w'.cell? ⟨b, o, none⟩ = w.cell? ⟨b, o, none⟩ := fun o => by unfold World.cell?; simp only [hh]
  exact ⟨by rw [hs]; exact h0, by rw [hs]; exact h1, by rw [hs]; exact h2⟩
theorem row_fz {w : World} {B g n c : Nat} {xs : List Value} (h : w.ownsRow B 26 3 (.slice (some ⟨g, 0, none⟩) n c) n xs) (j : Nat) : w.frozen? ⟨g, j, none⟩ = false := by
  rcases h.2 with ⟨e, _⟩ | ⟨g', cap, cur, e, _, hh, _⟩
  · cases e
  · cases e
    simp [World.frozen?, hh]
theorem cell_set_ne {w : World} {b j p i : Nat} {v u : Value} (h : w.cell? ⟨b, j, none⟩ = some v) (hne : b ≠ p) : (w.setCell ⟨p, i, none⟩ u).cell? ⟨b, j, none⟩ = some v := by
  have hh := Below.heap_setCell w ⟨p, i, none⟩ u b hne
  have : (w.setCell ⟨p, i, none⟩ u).cell? ⟨b, j, none⟩ = w.cell? ⟨b, j, none⟩ := by unfold World.cell?; simp only [hh]
  rw [this]; exact h
theorem batB_len {seq : Int} {l : List OpD} (h : batRight seq l = true) : (batB seq l).length ≤ 400000 := by
  obtain ⟨h1, h2, h3, h4, h5⟩ := batRight_all h
  unfold batB
  have := opsB_len l h1 l.length (Nat.le_refl _)
  rw [List.take_length] at this
  have hn : (num seq.toNat).length ≤ 9 := num_len9 (by omega)
  have hn2 : (num l.length).length ≤ 9 := num_len9 (by omega)
  rw [List.length_append, List.length_append]
  omega

set_option maxRecDepth 100000 in
set_option maxHeartbeats 8000000 in
theorem bown_yes {w : World} {a : Option Addr} {c : Nat} {l : List OpD} (h : OPs w a l) (hl : l.length ≤ maxLen) (seq : Int) :
    Calls Try.prog 8 #[.agg #[.int .i64 seq, .slice a l.length c]] w fun e w' => e = .returned (.bool true) ∧ Below w.heap.size w w' := by
  have H := Lib.hid h
  have hl' := hl
  unfold maxLen at hl'
  clear h
  go_enter Try.func8, Try.ntmps8
  go_upto_region 1 with (fail)
  refine gen_wp (fun w' => Below w.heap.size w w' ∧ w'.cell? ⟨w.heap.size, 0, none⟩ = some (.int .i64 seq) ∧ w'.cell? ⟨w.heap.size, 1, none⟩ = some (.slice a l.length c)) ?_ ?_
  · refine ⟨?_, ?_, ?_⟩
    · (repeat first | exact Below.refl _ _ | refine Below.drew ?_ | refine Below.alloc ?_ (by simp <;> omega) _ | refine Below.setCell ?_ (by simp <;> omega) _)
    all_goals go_simp
  rintro w0 ⟨hb0, c0, c1⟩
  have hww : w.heap.size < w0.heap.size := World.block_lt_of_cell? w0 _ c0
  have s0 := cell_next c0
  have s1 := cell_next c1
  have HO : Hid (∀ w', Below w0.heap.size w0 w' → OPs w' a l) := by
    have h0 := H.out.below (hb0.mono (Nat.le_refl _))
    exact Lib.hid fun w' hb => h0.below hb
  have B0 := Below.refl w0.heap.size w0
  clear c0 c1
  have hsm := bsmall_any (c := c) (HO.out _ B0) hl seq
  have Hsm := Lib.hid hsm
  clear hsm
  cases hs : small10 l with
  | false =>
    rw [hs] at Hsm
    clear hs
    go_wp2_with fail; (with_reducible refine (Hsm.out).mono ?_); rintro e w1 ⟨rfl, hb1⟩
    go_wp2_with fail; (with_reducible refine (awake_any _).mono ?_); rintro e w2 ⟨rfl, hb2⟩
    go_wp2
    go_ret
    exact ⟨rfl, hb0.trans ((bnext hb1 hb2).mono hb0.size)⟩
  | true =>
    rw [hs] at Hsm
    clear hs
    go_wp2_with fail; (with_reducible refine (Hsm.out).mono ?_); rintro e w1 ⟨rfl, hb1⟩
    have e0 := s0 _ hb1
    have e1 := s1 _ hb1
    cases hr : batRight seq l with
    | false =>
      have hc := batcheck (c := c) (HO.out _ hb1) hl seq 100 (by rw [hr, if_neg (by decide)])
      have Hc := Lib.hid hc
      clear hc hr
      go_wp2_with fail; (with_reducible refine (Hc.out).mono ?_); rintro e w2 ⟨rfl, hb2⟩
      go_wp2_with fail; (with_reducible refine (awake_any _).mono ?_); rintro e w3 ⟨rfl, hb3⟩
      go_wp2
      go_ret
      exact ⟨rfl, hb0.trans ((bnext (bnext hb1 hb2) hb3).mono hb0.size)⟩
    | true =>
      have Hr := Lib.hid hr
      obtain ⟨hall, h1, h2, h3, h4⟩ := batRight_all hr
      have hok : ∀ x ∈ l, OpOk x := H.out.2
      have Hok := Lib.hid hok
      have hc := batcheck (c := c) (HO.out _ hb1) hl seq 0 (by rw [hr, if_pos rfl])
      have Hc := Lib.hid hc
      clear hc hr hall hok
      go_wp2_with fail; (with_reducible refine (Hc.out).mono ?_); rintro e w2 ⟨rfl, hb2⟩
      have B2 := bnext hb1 hb2
      clear e0 e1 hb1 hb2 Hc Hsm
      have e0 := s0 _ B2
      have e1 := s1 _ B2
      have hby := batbytes (c := c) (HO.out _ B2) hl seq Hr.out
      have Hby := Lib.hid hby
      have hlen := batB_len Hr.out
      have hback := batP_batB Hr.out
      generalize hA : batB seq l = A at *
      have Hback := Lib.hid hback
      clear hby hA hback
      go_wp2_with fail; (with_reducible refine (Hby.out).mono ?_); rintro e w3 ⟨v3, rfl, hob3, ⟨g, rfl⟩, hb3⟩
      have B3 := bnext B2 hb3
      have Hob3 := Lib.hid hob3
      have hg3 := (hob3.lt (k := g) rfl)
      obtain ⟨hg31, hg32⟩ := hg3
      have hp1 := batparse hob3.reads (by omega)
      have Hp1 := Lib.hid hp1
      rw [Hback.out] at Hp1
      clear hp1 hob3 Hby e0 e1
      go_wp2_with fail; (with_reducible refine (Hp1.out).mono ?_); rintro e w4 ⟨hb4, a4, c4, rfl, hrow4⟩
      have B4 := bnext B3 hb4
      obtain ⟨g4, rfl, hg41, hg42⟩ : ∃ g4, a4 = some ⟨g4, 0, none⟩ ∧ w3.heap.size + 1 ≤ g4 ∧ g4 < w4.heap.size := by
        obtain ⟨ao, cc, e, _, _, hs4⟩ := row_shape hrow4
        cases e
        obtain ⟨g4, e1, e2, e3⟩ := hs4 (by omega)
        exact ⟨g4, e1, e2, e3⟩
      have Hrow4 := Lib.hid hrow4
      have HB4 := Lib.hid hb4
      have hz4 := hb4.size
      clear hrow4 hb4 Hp1
      go_upto_region 5 with fail
      refine gen_wp (fun w' => w'.heap[w4.heap.size]? = some (.cells #[.int .i64 seq, .slice (some ⟨g4, 0, none⟩) l.length c4] 24 (0, 0)) ∧ Below w4.heap.size w4 w') ?_ ?_
      · exact ⟨heap_alloc_new _ _, (Below.refl _ w4).alloc (Nat.le_refl _) _⟩
      rintro w5 ⟨b5, hb5⟩
      have B5 := bnext B4 hb5
      have hz5 : w4.heap.size < w5.heap.size := blk_lt b5
      have Hb5 := Lib.hid b5
      have HB5 := Lib.hid hb5
      have hob5 := (Hob3.out.past HB4.out (Nat.le_refl _)).past hb5 (Nat.le_refl _)
      have Hob5 := Lib.hid hob5
      have hp2 := batparse hob5.reads (by omega)
      have Hp2 := Lib.hid hp2
      rw [Hback.out] at Hp2
      clear hp2 hob5 b5 hb5
      go_wp2_with fail; (with_reducible refine (Hp2.out).mono ?_); rintro e w6 ⟨hb6, a6, c6, rfl, hrow6⟩
      have B6 := bnext B5 hb6
      obtain ⟨g6, rfl, hg61, hg62⟩ : ∃ g6, a6 = some ⟨g6, 0, none⟩ ∧ w5.heap.size + 1 ≤ g6 ∧ g6 < w6.heap.size := by
        obtain ⟨ao, cc, e, _, _, hs6⟩ := row_shape hrow6
        cases e
        obtain ⟨g6, e1, e2, e3⟩ := hs6 (by omega)
        exact ⟨g6, e1, e2, e3⟩
      have Hrow6 := Lib.hid hrow6
      have HB6 := Lib.hid hb6
      have hz6 := hb6.size
      clear hrow6 hb6 Hp2
      go_upto_region 6 with fail
      refine gen_wp (fun w' => w'.heap[w6.heap.size]? = some (.cells #[.int .i64 seq, .slice (some ⟨g6, 0, none⟩) l.length c6] 24 (0, 0)) ∧ Below w6.heap.size w6 w') ?_ ?_
      · exact ⟨heap_alloc_new _ _, (Below.refl _ w6).alloc (Nat.le_refl _) _⟩
      rintro w7 ⟨b7, hb7⟩
      have B7 := bnext B6 hb7
      have hz7 : w6.heap.size < w7.heap.size := blk_lt b7
      have k5 := cells_below (cells_below Hb5.out HB6.out) hb7
      have row4 := row_past (row_past (row_past Hrow4.out HB5.out (Nat.le_refl _)) HB6.out (Nat.le_refl _)) hb7 (Nat.le_refl _)
      have row6 := row_past Hrow6.out hb7 (Nat.le_refl _)
      have hob7 := (Hob5.out.past HB6.out (Nat.le_refl _)).past hb7 (Nat.le_refl _)
      have K5 := Lib.hid k5
      have K7 := Lib.hid b7
      have Row4 := Lib.hid row4
      have Row6 := Lib.hid row6
      have Hob7 := Lib.hid hob7
      have HB7 := Lib.hid B7
      clear k5 b7 row4 row6 hob7 Hob5 Hob3 hb7 HB6 HB5 HB4 Hb5 Hrow4 Hrow6
      go_wp2
      go_loopw [36] (fun i wr => ∃ (k : Nat) (m : List UInt8), k ≤ A.length ∧ m.length = A.length ∧ i = .int .i64 k ∧ OB wr w2.heap.size (.slice (some ⟨g, 0, none⟩) A.length A.length) m ∧ Chg (fun j => j = g) w7 wr ∧ Below w0.heap.size w0 wr) (fun i _ => A.length - (intOf i).toNat)
      case atStart => exact ⟨0, A, Nat.zero_le _, rfl, rfl, Hob7.out, Chg.refl _ _, HB7.out⟩
      case round =>
        obtain ⟨k, m, hk2, hmA, rfl, hox, hcx, hbx⟩ := hrel
        have Hox := Lib.hid hox
        have HmA := Lib.hid hmA
        have hw0z := B2.size
        by_cases hlt2 : k < A.length
        · have hfz := hox.fz k
          have hcell := hox.cellN k (by omega)
          generalize m[k] = y at hcell
          clear hox hmA
          go_wp2
          go_roundw
          case rel =>
            rw [xorByte]
            exact ⟨k + 1, m.set k (UInt8.ofNat (255 - y.toNat)), by omega, by rw [List.length_set]; exact HmA.out, by go_num, Hox.out.set k _, hcx.trans (Chg.set wr g k _), hbx.setCell (show w0.heap.size ≤ g by omega) _⟩
          case measure => simp [intOf]; omega
        · clear Hox HmA hmA hox
          have k5 := blk_chg K5.out hcx (by omega)
          have k7 := blk_chg K7.out hcx (by omega)
          have row4 := row_same Row4.out fun k hk => hcx.block k (World.ownsRow.lt Row4.out k hk).2 (fun e => by have := (World.ownsRow.lt Row4.out k hk).1; omega)
          have row6 := row_same Row6.out fun k hk => hcx.block k (World.ownsRow.lt Row6.out k hk).2 (fun e => by have := (World.ownsRow.lt Row6.out k hk).1; omega)
          obtain ⟨a4', c4', e, T4⟩ := ops_of_row rfl row4 Hok.out
          cases e
          obtain ⟨a6', c6', e, T6⟩ := ops_of_row rfl row6 Hok.out
          cases e
          have e0 := s0 _ hbx
          have e1 := s1 _ hbx
          obtain ⟨p50, p51, _⟩ := cell_two k5
          obtain ⟨p70, p71, _⟩ := cell_two k7
          have n50 := cell_next p50
          have n51 := cell_next p51
          have n70 := cell_next p70
          have n71 := cell_next p71
          have hsame1 := bsame_yes (c := c) (c' := c4) (HO.out _ hbx) T4 hl seq
          have Hsame1 := Lib.hid hsame1
          have T6' := Lib.hid T6
          have Row4' := Lib.hid row4
          have Row6' := Lib.hid row6
          clear hsame1 T4 T6 k5 k7 row4 row6
          go_wp2_with fail; (with_reducible refine (Hsame1.out).mono ?_); rintro e w8 ⟨rfl, hb8⟩
          have B8 := bnext hbx hb8
          have q0 := s0 _ B8
          have q1 := s1 _ B8
          have q50 := n50 _ hb8
          have q51 := n51 _ hb8
          have q70 := n70 _ hb8
          have q71 := n71 _ hb8
          have hsame2 := bsame_yes (c := c) (c' := c6) (HO.out _ B8) (T6'.out.below hb8) hl seq
          have Hsame2 := Lib.hid hsame2
          clear hsame2 Hsame1
          go_wp2_with fail; (with_reducible refine (Hsame2.out).mono ?_); rintro e w9 ⟨rfl, hb9⟩
          have B9 := bnext B8 hb9
          have B89 := bnext hb8 hb9
          clear e0 e1 p50 p51 p70 p71 q0 q1 q50 q51 q70 q71
          have q50 := n50 _ B89
          have q51 := n51 _ B89
          have hr4 := row_past Row4'.out B89 (Nat.le_refl _)
          have fz4 := row_fz hr4 1
          have ce4 : w9.cell? ⟨g4, 1, none⟩ = some (.string (l[0]'(by omega)).key) := by
            have := (opRow_at l 0 (by omega)).2.1
            rw [World.ownsRow.cellAt hr4 1 (by omega)]; simpa using this
          have hl0 : (0 : Int) < (l.length : Int) := by omega
          generalize (l[0]'(by omega)).key = key0 at ce4
          clear hr4
          go_upto_region 14 with fail
          refine gen_wp (fun w' => Chg (fun k => k = g4) w9 w' ∧ w'.cell? ⟨w.heap.size, 0, none⟩ = some (.int .i64 seq) ∧ w'.cell? ⟨w.heap.size, 1, none⟩ = some (.slice a l.length c) ∧ w'.cell? ⟨w6.heap.size, 0, none⟩ = some (.int .i64 seq) ∧ w'.cell? ⟨w6.heap.size, 1, none⟩ = some (.slice (some ⟨g6, 0, none⟩) l.length c6) ∧ Below w0.heap.size w0 w') ?_ ?_
          · exact ⟨Chg.set w9 g4 1 _, cell_set_ne (s0 _ B9) (by omega), cell_set_ne (s1 _ B9) (by omega), cell_set_ne (n70 _ B89) (by omega), cell_set_ne (n71 _ B89) (by omega), B9.setCell (show w0.heap.size ≤ g4 by omega) _⟩
          rintro wA ⟨hcA, r0, r1, r70, r71, BA⟩
          have T6A := ops_chg (T6'.out.below B89) hcA (fun _ b off e hb => by cases e; omega)
          have hsame3 := bsame_yes (c := c) (c' := c6) (HO.out _ BA) T6A hl seq
          have Hsame3 := Lib.hid hsame3
          clear hsame3 T6A hcA
          go_wp2_with fail; (with_reducible refine (Hsame3.out).mono ?_); rintro e wB ⟨rfl, hbB⟩
          go_wp2_with fail; (with_reducible refine (awake_any _).mono ?_); rintro e wC ⟨rfl, hbC⟩
          go_wp2
          go_ret
          exact ⟨rfl, hb0.trans ((bnext (bnext BA hbB) hbC).mono hb0.size)⟩
end Go.Proofs.Ytmgifejmheoddaa
