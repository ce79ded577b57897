/- BatchChecks: its walk. -/
import Derived.Test.YtmgifejmheoddaaBparPl
import Derived.Test.YtmgifejmheoddaaBaw
import Derived.Test.YtmgifejmheoddaaBsame
import Derived.Test.YtmgifejmheoddaaBref3
import Derived.Test.YtmgifejmheoddaaLess
namespace Go.Proofs.Ytmgifejmheoddaa
open Go.RowKit
set_option linter.unusedVariables false
set_option linter.unusedSimpArgs false

theorem bsize_z {w : World} {a : Option Addr} {c : Nat} {l : List OpD} (h : OPs w a l) (hl : l.length ≤ maxLen) (seq : Int) (z : Int) (hz : (batSize seq l : Int) = z) :
    Calls Try.prog 12 #[.agg #[.int .i64 seq, .slice a l.length c]] w fun e w' => e = .returned (.int .i64 z) ∧ Below w.heap.size w w' := by
  subst hz; exact batsize h hl seq
theorem blast_z {w : World} {a : Option Addr} {c : Nat} {l : List OpD} (h : OPs w a l) (hl : l.length ≤ maxLen) (seq : Int) (z : Int) (hz : batLast seq l = z) :
    Calls Try.prog 13 #[.agg #[.int .i64 seq, .slice a l.length c]] w fun e w' => e = .returned (.int .i64 z) ∧ Below w.heap.size w w' := by
  subst hz; exact batlast h hl seq

set_option maxRecDepth 100000 in
set_option maxHeartbeats 8000000 in
theorem bchecks_yes {w : World} {a : Option Addr} {c : Nat} {l : List OpD} (h : OPs w a l) (hl : l.length ≤ maxLen) (seq : Int) (hq1 : -9223372036854775808 ≤ seq) (hq2 : seq ≤ 9223372036854775807) :
    Calls Try.prog 6 #[.agg #[.int .i64 seq, .slice a l.length c]] w fun e w' => e = .returned (.bool true) ∧ Below w.heap.size w w' := by
  have H := Lib.hid h
  have hl' := hl
  unfold maxLen at hl'
  clear h
  go_enter Try.func6, Try.ntmps6
  go_upto_region 1 with (fail)
  refine gen_wp (fun w' => Below w.heap.size w w' ∧ w'.cell? ⟨w.heap.size, 0, none⟩ = some (.int .i64 seq) ∧ w'.cell? ⟨w.heap.size, 1, none⟩ = some (.slice a l.length c)) ?_ ?_
  · refine ⟨?_, ?_, ?_⟩
    · (repeat first | exact Below.refl _ _ | refine Below.drew ?_ | refine Below.alloc ?_ (by simp <;> omega) _ | refine Below.setCell ?_ (by simp <;> omega) _)
    all_goals go_simp
  rintro w0 ⟨hb0, c0, c1⟩
  have s0 := cell_next c0
  have s1 := cell_next c1
  have HO : Hid (∀ w', Below w0.heap.size w0 w' → OPs w' a l) := by
    have h0 := H.out.below (hb0.mono (Nat.le_refl _))
    exact Lib.hid fun w' hb => h0.below hb
  have B0 := Below.refl w0.heap.size w0
  clear c0 c1
  have hsm := bsmall_any (c := c) (HO.out _ B0) hl seq
  have Hsm := Lib.hid hsm
  clear hsm
  cases hs : small10 l with
  | false =>
    rw [hs] at Hsm
    clear hs
    go_wp2_with fail; (with_reducible refine (Hsm.out).mono ?_); rintro e w1 ⟨rfl, hb1⟩
    go_wp2_with fail; (with_reducible refine (awake_any _).mono ?_); rintro e w2 ⟨rfl, hb2⟩
    go_wp2
    go_ret
    exact ⟨rfl, hb0.trans ((bnext hb1 hb2).mono hb0.size)⟩
  | true =>
    have hl70 : l.length ≤ 70 := by
      unfold small10 at hs
      rw [Bool.and_eq_true, decide_eq_true_eq] at hs
      exact hs.2
    rw [hs] at Hsm
    clear hs
    go_wp2_with fail; (with_reducible refine (Hsm.out).mono ?_); rintro e w1 ⟨rfl, hb1⟩
    have e0 := s0 _ hb1
    have e1 := s1 _ hb1
    have hrf := bref_any (c := c) (HO.out _ hb1) (by omega)
    have Hrf := Lib.hid hrf
    clear hrf Hsm
    go_wp2_with fail; (with_reducible refine (Hrf.out).mono ?_); rintro e w2 ⟨a2, c2, rfl, hT2, hb2⟩
    have B2 := bnext hb1 hb2
    have HT2 : Hid (∀ w', Below w2.heap.size w2 w' → OPs w' a2 l) := Lib.hid fun w' hb => hT2.below hb
    have e0 := s0 _ B2
    have e1 := s1 _ B2
    clear Hrf hT2 hb2
    go_wp2
    go_loopw [20] (fun i wr => ∃ k : Nat, k ≤ l.length ∧ i = .int .i64 k ∧ Below w2.heap.size w2 wr) (fun i _ => l.length - (intOf i).toNat)
    case atStart => exact ⟨0, Nat.zero_le _, rfl, Below.refl _ _⟩
    case round =>
      obtain ⟨k, hk, rfl, hbr⟩ := hrel
      have BR := bnext B2 hbr
      clear e0 e1
      by_cases hlt : k < l.length
      · obtain ⟨b, off, rfl, f0, f1, f2⟩ := (HO.out _ BR).cells (Below.refl _ wr) k hlt
        obtain ⟨b2, off2, rfl, g0, g1, g2⟩ := (HT2.out _ hbr).cells (Below.refl _ wr) k hlt
        have hok := H.out.2 _ (List.getElem_mem hlt)
        have hck := opcheck l[k]
        have hrr := refop l[k]
        obtain ⟨z, hz⟩ : ∃ z, opRight l[k] = z := ⟨_, rfl⟩
        obtain ⟨y, hy, hzy⟩ : ∃ y : Int, (y = if opRight l[k] then 0 else 100) ∧ (y == 0) = z := by
          rw [hz]
          cases z with
          | true => exact ⟨0, rfl, rfl⟩
          | false => exact ⟨100, rfl, rfl⟩
        have Hck : Hid (∀ w, Calls Try.prog 18 #[.agg #[.int .i64 l[k].kind, .string l[k].key, .string l[k].val]] w fun e w' => e = .returned (.int .i64 y) ∧ Below w.heap.size w w') := Lib.hid fun w => hck w hok y hy
        have Hrr : Hid (∀ w, Calls Try.prog 19 #[.agg #[.int .i64 l[k].kind, .string l[k].key, .string l[k].val]] w fun e w' => e = .returned (.bool z) ∧ Below w.heap.size w w') := Lib.hid fun w => hrr w hok z hz
        clear hok hck hrr hz hy
        generalize l[k] = x at *
        go_upto_region 7 with fail
        refine gen_wp (fun w' => Below wr.heap.size wr w' ∧ w'.cell? ⟨wr.heap.size, 0, none⟩ = some (.int .i64 x.kind) ∧ w'.cell? ⟨wr.heap.size, 1, none⟩ = some (.string x.key) ∧ w'.cell? ⟨wr.heap.size, 2, none⟩ = some (.string x.val)) ?_ ?_
        · refine ⟨?_, ?_, ?_, ?_⟩
          · (repeat first | exact Below.refl _ _ | refine Below.drew ?_ | refine Below.alloc ?_ (by simp <;> omega) _ | refine Below.setCell ?_ (by simp <;> omega) _)
          all_goals go_simp
        rintro w5 ⟨hb5, p0, p1, p2⟩
        have t0 := cell_next p0
        have t1 := cell_next p1
        have t2 := cell_next p2
        have u0 := cell_next (cell_next g0 _ hb5)
        have u1 := cell_next (cell_next g1 _ hb5)
        have u2 := cell_next (cell_next g2 _ hb5)
        have Bq := bnext_grow (Below.refl w5.heap.size w5)
        clear p0 p1 p2 f0 f1 f2 g0 g1 g2 s0 s1
        refine wp_region_quiet_below (by kernel_rfl) (by kernel_rfl) ?_; (repeat (go_big_quiet_step ((first
          | (go_at_call 18; (with_reducible refine Calls.regrown_of (Hck.out _)))
          | (go_at_call 19; (with_reducible refine Calls.regrown_of (Hrr.out _))))))); refine wpQuiet_nil ?_; rintro _ ⟨pq, rfl⟩
        go_wp2
        go_roundw
        case rel => exact ⟨k + 1, by omega, by go_num, bnext hbr (bnext hb5 (Bq _ _))⟩
        case measure => simp [intOf]; omega
      · have e0 := s0 _ BR
        have e1 := s1 _ BR
        cases hr : batRight seq l with
        | false =>
          have Hr := Lib.hid hr
          have hby := batbytes_bad (c := c) (HO.out _ BR) hl seq hr
          have Hby := Lib.hid hby
          clear hby hr
          go_wp2_with fail; (with_reducible refine (Hby.out).mono ?_); rintro e w3 ⟨rfl, hb3⟩
          have B3 := bnext BR hb3
          have e0 := s0 _ B3
          have e1 := s1 _ B3
          have hal := refall (c := c2) (HT2.out _ (bnext hbr hb3)) hl seq hq1 hq2 false Hr.out
          have Hal := Lib.hid hal
          clear hal
          go_wp2_with fail; (with_reducible refine (Hal.out).mono ?_); rintro e w4 ⟨rfl, hb4⟩
          have B4 := bnext B3 hb4
          have e0 := s0 _ B4
          have e1 := s1 _ B4
          have hc := batcheck (c := c) (HO.out _ B4) hl seq 100 (by rw [Hr.out, if_neg (by decide)])
          have Hc := Lib.hid hc
          clear hc
          go_wp2_with fail; (with_reducible refine (Hc.out).mono ?_); rintro e w5 ⟨rfl, hb5⟩
          have B5 := bnext B4 hb5
          have e0 := s0 _ B5
          have e1 := s1 _ B5
          have hc := bsize_z (c := c) (HO.out _ B5) hl seq 0 (by unfold batSize; rw [Hr.out]; rfl)
          have Hc := Lib.hid hc
          clear hc
          go_wp2_with fail; (with_reducible refine (Hc.out).mono ?_); rintro e w6 ⟨rfl, hb6⟩
          have B6 := bnext B5 hb6
          have e0 := s0 _ B6
          have e1 := s1 _ B6
          have hc := blast_z (c := c) (HO.out _ B6) hl seq 0 (by unfold batLast; rw [Hr.out]; rfl)
          have Hc := Lib.hid hc
          clear hc
          go_wp2_with fail; (with_reducible refine (Hc.out).mono ?_); rintro e w7 ⟨rfl, hb7⟩
          have B7 := bnext B6 hb7
          have e0 := s0 _ B7
          have e1 := s1 _ B7
          have hc := batkeys_bad (c := c) (HO.out _ B7) hl seq Hr.out
          have Hc := Lib.hid hc
          clear hc
          go_wp2_with fail; (with_reducible refine (Hc.out).mono ?_); rintro e w8 ⟨rfl, hb8⟩
          have B8 := bnext B7 hb8
          go_wp2_with fail; (with_reducible refine (awake_any _).mono ?_); rintro e w9 ⟨rfl, hb9⟩
          go_wp2
          go_ret
          exact ⟨rfl, hb0.trans ((bnext B8 hb9).mono hb0.size)⟩
        | true =>
          have Hr := Lib.hid hr
          have hlen : (batSize seq l : Int) = (batB seq l).length := by unfold batSize; rw [hr, if_pos rfl]
          have hby := batbytes (c := c) (HO.out _ BR) hl seq hr
          have Hby := Lib.hid hby
          have hback := batP_batB hr
          have hrb := fun (w : World) (a : Option Addr) (c : Nat) (h : OPs w a l) => refbytes10 (c := c) h hl seq hr
          have Hrb := Lib.hid hrb
          obtain ⟨hall, h1, h2, h3, h4⟩ := batRight_all hr
          have hAl : (batB seq l).length ≤ 400000 := by
            unfold batB
            have := opsB_len l hall l.length (Nat.le_refl _)
            rw [List.take_length] at this
            have hn : (num seq.toNat).length ≤ 9 := num_len9 (by omega)
            have hn2 : (num l.length).length ≤ 9 := num_len9 (by omega)
            rw [List.length_append, List.length_append]
            omega
          clear hrb hall hr
          generalize hA : batB seq l = A at *
          have Hlen := Lib.hid hlen
          have Hback := Lib.hid hback
          clear hby hA hback hlen
          go_wp2_with fail; (with_reducible refine (Hby.out).mono ?_); rintro e w3 ⟨v3, rfl, hob3, ⟨g, rfl⟩, hb3⟩
          have B3 := bnext BR hb3
          have e0 := s0 _ B3
          have e1 := s1 _ B3
          have HR3 := Lib.hid hob3.reads
          clear hob3
          have hal := refall (c := c2) (HT2.out _ (bnext hbr hb3)) hl seq hq1 hq2 true Hr.out
          have Hal := Lib.hid hal
          clear hal
          go_wp2_with fail; (with_reducible refine (Hal.out).mono ?_); rintro e w4 ⟨rfl, hb4⟩
          have B4 := bnext B3 hb4
          have B24 := bnext (bnext hbr hb3) hb4
          have B34 := hb4
          have e0 := s0 _ B4
          have e1 := s1 _ B4
          have hc := batcheck (c := c) (HO.out _ B4) hl seq 0 (by rw [Hr.out, if_pos rfl])
          have Hc := Lib.hid hc
          clear hc
          go_wp2_with fail; (with_reducible refine (Hc.out).mono ?_); rintro e w5 ⟨rfl, hb5⟩
          have B5 := bnext B4 hb5
          have e0 := s0 _ B5
          have e1 := s1 _ B5
          have hrb := Hrb.out _ a2 c2 (HT2.out _ (bnext B24 hb5))
          have Hrb2 := Lib.hid hrb
          clear hrb
          go_wp2_with fail; (with_reducible refine (Hrb2.out).mono ?_); rintro e w6 ⟨v6, rfl, ho6, hb6⟩
          have B6 := bnext B5 hb6
          have B36 := bnext (bnext B34 hb5) hb6
          have hsm := same_b (HR3.out.below B36) ho6.reads true (by rw [beq_iff_eq])
          have Hsm := Lib.hid hsm
          clear hsm ho6
          go_wp2_with fail; (with_reducible refine (Hsm.out).mono ?_); rintro e w7 ⟨rfl, hb7⟩
          have B7 := bnext B6 hb7
          have B37 := bnext B36 hb7
          have e0 := s0 _ B7
          have e1 := s1 _ B7
          have hc := bsize_z (c := c) (HO.out _ B7) hl seq _ Hlen.out
          have Hc := Lib.hid hc
          clear hc
          go_wp2_with fail; (with_reducible refine (Hc.out).mono ?_); rintro e w8 ⟨rfl, hb8⟩
          have B8 := bnext B7 hb8
          have B38 := bnext B37 hb8
          have hp := batparse (HR3.out.below B38) (by omega)
          rw [Hback.out] at hp
          have Hp := Lib.hid hp
          clear hp
          go_wp2_with fail; (with_reducible refine (Hp.out).mono ?_); rintro e w9 ⟨hb9, a9, c9, rfl, hrow9⟩
          have B9 := bnext B8 hb9
          obtain ⟨a9', c9', e, T9⟩ := ops_of_row rfl hrow9 H.out.2
          cases e
          have HT9 := Lib.hid T9
          clear T9 hrow9 hb9
          go_upto_region 16 with fail
          refine gen_wp (fun w' => w'.cell? ⟨w9.heap.size, 0, none⟩ = some (.int .i64 seq) ∧ w'.cell? ⟨w9.heap.size, 1, none⟩ = some (.slice a9 l.length c9) ∧ Below w9.heap.size w9 w') ?_ ?_
          · refine ⟨?_, ?_, (Below.refl _ w9).alloc (Nat.le_refl _) _⟩
            all_goals go_simp
          rintro wA ⟨p0, p1, hbA⟩
          have BA := bnext B9 hbA
          have e0 := s0 _ BA
          have e1 := s1 _ BA
          have hsm := bsame_yes (c := c) (c' := c9) (HO.out _ BA) (HT9.out.below hbA) hl seq
          have Hsm := Lib.hid hsm
          clear hsm
          go_wp2_with fail; (with_reducible refine (Hsm.out).mono ?_); rintro e wB ⟨rfl, hbB⟩
          go_wp2_with fail; (with_reducible refine (awake_any _).mono ?_); rintro e wC ⟨rfl, hbC⟩
          go_wp2
          go_ret
          exact ⟨rfl, hb0.trans ((bnext (bnext BA hbB) hbC).mono hb0.size)⟩
end Go.Proofs.Ytmgifejmheoddaa
