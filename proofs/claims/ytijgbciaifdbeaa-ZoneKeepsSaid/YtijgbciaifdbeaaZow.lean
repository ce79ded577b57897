/- ZoneOpens: its walk. -/
import Derived.Test.YtijgbciaifdbeaaZop
import Derived.Test.YtijgbciaifdbeaaOp7
import Derived.Test.YtijgbciaifdbeaaAw07
import Derived.Deep.QuietTactic
import Derived.BigQuiet
namespace Go.Proofs.Ytijgbciaifdbeaa
open Go.RowKit
set_option linter.unusedVariables false
set_option linter.unusedSimpArgs false

theorem cells6 (w : World) (a b c d e f : Value) (T : TypeId) : (w.alloc (.cells #[a, b, c, d, e, f] T)).cell? ⟨w.heap.size, 0, none⟩ = some a ∧ (w.alloc (.cells #[a, b, c, d, e, f] T)).cell? ⟨w.heap.size, 1, none⟩ = some b ∧ (w.alloc (.cells #[a, b, c, d, e, f] T)).cell? ⟨w.heap.size, 2, none⟩ = some c ∧ (w.alloc (.cells #[a, b, c, d, e, f] T)).cell? ⟨w.heap.size, 3, none⟩ = some d ∧ (w.alloc (.cells #[a, b, c, d, e, f] T)).cell? ⟨w.heap.size, 4, none⟩ = some e ∧ (w.alloc (.cells #[a, b, c, d, e, f] T)).cell? ⟨w.heap.size, 5, none⟩ = some f := by
  refine ⟨?_, ?_, ?_, ?_, ?_, ?_⟩ <;> (rw [cell_of_row _ _ _ _ _ _ (heap_alloc_new w _)]; rfl)
theorem gchk_nat {n s o : Int} (h : gchk n s o = true) : ∃ n' s' o' : Nat, n = n' ∧ s = s' ∧ o = o' := by
  have hg2 : 1 ≤ n ∧ n ≤ 64 ∧ 16 ≤ s ∧ s ≤ 65536 ∧ 1 ≤ o ∧ o ≤ n := of_decide_eq_true h
  exact ⟨n.toNat, s.toNat, o.toNat, by omega, by omega, by omega⟩
theorem zinv0 (n s o : Nat) : ZInv (dv0 n s o) := by
  refine ⟨fun z hz => ?_, ?_⟩
  · rw [List.eq_of_mem_replicate hz]; intro _; rfl
  · have : zopn (dv0 n s o).A = 0 := by
      simp [zopn, dv0, List.countP_replicate]
    rw [this]; exact Nat.zero_le _
set_option maxRecDepth 100000 in
set_option maxHeartbeats 8000000 in
theorem opens_walk {w : World} {a : Option Addr} {c : Nat} {l : List ZO} (h : ZOs w a l) (hl : l.length ≤ maxLen) (gn gs go : Int) :
    Calls Try.prog 4 #[.agg #[.int .i64 gn, .int .i64 gs, .int .i64 go], .slice a l.length c] w fun e w' => e = .returned (.bool true) ∧ Below w.heap.size w w' := by
  have hb0 : Below w.heap.size w (w.alloc (.cells #[.int .i64 gn, .int .i64 gs, .int .i64 go] 26)) := (Below.refl _ w).alloc (Nat.le_refl _) _
  obtain ⟨g0, g1, g2⟩ := box3 w (.int .i64 gn) (.int .i64 gs) (.int .i64 go) 26
  have HB0 := Lib.hid hb0
  have HS0 := Lib.hid hb0.size
  have H := Lib.hid (h.belowz hb0)
  clear h hb0
  go_enter Try.func4, Try.ntmps4
  go_upto_region 1 with (fail)
  refine gen_wp (fun w' => w' = (w.alloc (.cells #[.int .i64 gn, .int .i64 gs, .int .i64 go] 26))) rfl ?_
  rintro w0 rfl
  generalize hq : w.heap.size = q at *
  generalize (w.alloc (.cells #[.int .i64 gn, .int .i64 gs, .int .i64 go] 26)) = w0 at *
  have HQ := Lib.hid hq
  clear hq
  cases hg : gchk gn gs go with
  | false =>
    have Hn := Lib.hid (znew_nil w0 gn gs go hg)
    have Hck : Hid (∀ W, Calls Try.prog 14 #[.agg #[.int .i64 gn, .int .i64 gs, .int .i64 go]] W fun e w' => e = .returned (.bool false) ∧ Below W.heap.size W w') := Lib.hid fun W => by
      have := zcheck W gn gs go
      rw [hg] at this; exact this
    clear hg
    go_wp2_with fail; (with_reducible refine (Hn.out).mono ?_); rintro e w2 ⟨rfl, hb2⟩
    have e0 := cell_next g0 _ hb2
    have e1 := cell_next g1 _ hb2
    have e2 := cell_next g2 _ hb2
    go_wp2_with fail; (with_reducible refine (Hck.out _).mono ?_); rintro e w3 ⟨rfl, hb3⟩
    go_wp2_with fail; (with_reducible refine (awake07 _).mono ?_); rintro e w4 ⟨rfl, hb4⟩
    go_wp2
    go_ret
    exact ⟨rfl, by rw [HQ.out]; exact HB0.out.trans ((bnext (bnext hb2 hb3) hb4).mono HS0.out)⟩
  | true =>
    obtain ⟨n0, s0, o0, rfl, rfl, rfl⟩ := gchk_nat hg
    have Hn := Lib.hid (DI.new w0 n0 s0 o0 hg)
    have Hck : Hid (∀ W, Calls Try.prog 14 #[.agg #[.int .i64 n0, .int .i64 s0, .int .i64 o0]] W fun e w' => e = .returned (.bool true) ∧ Below W.heap.size W w') := Lib.hid fun W => by
      have := zcheck W n0 s0 o0
      rw [hg] at this; exact this
    clear hg
    go_wp2_with fail; (with_reducible refine (Hn.out).mono ?_); rintro e w2 ⟨p, F1, rfl, hD1, hb2⟩
    have Hsm : Hid (Calls Try.prog 13 #[.slice a l.length c, .int .i64 100] w2 fun e w' => e = .returned (.bool (zsm l 100)) ∧ Below w2.heap.size w2 w') := Lib.hid (zsmall (c := c) (ZOs.belowz H.out hb2) hl 100)
    have e0 := cell_next g0 _ hb2
    have e1 := cell_next g1 _ hb2
    have e2 := cell_next g2 _ hb2
    have HD1 := Lib.hid hD1
    have HB2 := Lib.hid hb2
    clear hD1 hb2
    go_wp2_with fail; (with_reducible refine (Hsm.out).mono ?_); rintro e w3 ⟨rfl, hb3⟩
    have f0 := cell_next e0 _ hb3
    have f1 := cell_next e1 _ hb3
    have f2 := cell_next e2 _ hb3
    have HD3 := Lib.hid (HD1.out.below hb3)
    have HB3 := Lib.hid (bnext HB2.out hb3)
    clear hb3 HD1 HB2 Hsm e0 e1 e2
    cases hsm : zsm l 100 with
    | false =>
      go_wp2_with fail; (with_reducible refine (Hck.out _).mono ?_); rintro e w4 ⟨rfl, hb4⟩
      go_wp2_with fail; (with_reducible refine (awake07 _).mono ?_); rintro e w5 ⟨rfl, hb5⟩
      go_wp2
      go_ret
      exact ⟨rfl, by rw [HQ.out]; exact HB0.out.trans ((bnext (bnext HB3.out hb4) hb5).mono HS0.out)⟩
    | true =>
      obtain ⟨hl100, hdk⟩ := zsm_of hsm
      have HDK := Lib.hid hdk
      clear hsm hdk Hck f0 f1 f2
      go_wp2
      go_loopw [33] (fun i wr => ∃ (n : Nat) (D : Dv) (F : Nat → Prop), n ≤ l.length ∧ i = .int .i64 n ∧ DI wr w0.heap.size p F D ∧ ZInv D ∧ D.n = n0 ∧ D.size = s0 ∧ D.op = o0 ∧ D.done ≤ n ∧ Below w0.heap.size w0 wr) (fun i _ => l.length - (intOf i).toNat)
      case atStart => exact ⟨0, dv0 n0 s0 o0, F1, Nat.zero_le _, rfl, HD3.out, zinv0 _ _ _, rfl, rfl, rfl, Nat.le_refl _, HB3.out⟩
      case round =>
        clear HD3 HB3
        obtain ⟨n, D, F, hn, rfl, hD, hinv, en, es, eo, hdn, hbr⟩ := hrel
        have HD := Lib.hid hD
        have HI := Lib.hid hinv
        have HBR := Lib.hid hbr
        have EN := Lib.hid en
        have ES := Lib.hid es
        have EO := Lib.hid eo
        clear hD hinv en es eo
        by_cases hlt : n < l.length
        · obtain ⟨b, off, rfl, f0, f1, f2, f3, f4, f5, hok⟩ := H.out.cells hbr n hlt
          obtain ⟨hd400, hk70⟩ := HDK.out n hlt
          have HOK := Lib.hid hok
          clear hok hbr
          generalize l[n] = x at *
          obtain ⟨xk, xz, xa, xn, xda, xdc, xd, xka, xkc, xke⟩ := x
          simp only at f0 f1 f2 f3 f4 f5 hd400 hk70
          go_upto_region 7 with (fail)
          refine gen_wp (fun w' => w' = (wr.alloc (.cells #[.int .i64 xk, .int .i64 xz, .int .i64 xa, .int .i64 xn, .slice xda xd.length xdc, .slice xka xke.length xkc] 40))) rfl ?_
          rintro w4 hw4
          obtain ⟨c0, c1, c2, c3, c4, c5⟩ := cells6 wr (.int .i64 xk) (.int .i64 xz) (.int .i64 xa) (.int .i64 xn) (.slice xda xd.length xdc) (.slice xka xke.length xkc) 40
          have hb4 : Below wr.heap.size wr (wr.alloc (.cells #[.int .i64 xk, .int .i64 xz, .int .i64 xa, .int .i64 xn, .slice xda xd.length xdc, .slice xka xke.length xkc] 40)) := (Below.refl _ wr).alloc (Nat.le_refl _) _
          have hqb : wr.heap.size < (wr.alloc (.cells #[.int .i64 xk, .int .i64 xz, .int .i64 xa, .int .i64 xn, .slice xda xd.length xdc, .slice xka xke.length xkc] 40)).heap.size := by simp
          rw [← hw4] at c0 c1 c2 c3 c4 c5 hb4 hqb
          clear hw4
          have HFq : Hid (∀ y, F y → y < wr.heap.size) := Lib.hid fun y hy => (HD.out.ge y hy).2
          have HD4 := Lib.hid (HD.out.below hb4)
          have HB4 := Lib.hid (bnext HBR.out hb4)
          clear hb4 f0 f1 f2 f3 f4 f5 HD HBR
          generalize wr.heap.size = q4 at *
          have Bq := bnext_grow (Below.refl w4.heap.size w4)
          have dd1 := cell_next c1
          have hst : Hid (∀ W, Below w4.heap.size w4 W → Calls Try.prog 15 #[.pointer (some ⟨p, 0, none⟩), .int .i64 xz] W fun e w' => e = .returned (.int .i64 (zst D xz)) ∧ Below W.heap.size W w') := Lib.hid fun W hW => ((HD4.out.below hW).state xz).mono fun e w' ⟨h1, h2⟩ => ⟨h1, by rw [← h2]; exact Below.refl _ _⟩
          have hpt : Hid (∀ W, Below w4.heap.size w4 W → Calls Try.prog 12 #[.pointer (some ⟨p, 0, none⟩), .int .i64 xz] W fun e w' => e = .returned (.int .i64 (zpt D xz)) ∧ Below W.heap.size W w') := Lib.hid fun W hW => ((HD4.out.below hW).pointer xz).mono fun e w' ⟨h1, h2⟩ => ⟨h1, by rw [← h2]; exact Below.refl _ _⟩
          refine wp_region_quiet_below (by kernel_rfl) (by kernel_rfl) ?_; (repeat (go_big_quiet_step ((first | (go_at_call 15; (with_reducible refine Calls.regrown_of (hst.out _ (Bq _ _)))) | (go_at_call 12; (with_reducible refine Calls.regrown_of (hpt.out _ (Bq _ _)))))))); refine wpQuiet_nil ?_; rintro _ ⟨pq, rfl⟩
          have HB5 := Lib.hid (bnext HB4.out (Bq pq.d pq.os))
          have HD5 := Lib.hid (HD4.out.below (Bq pq.d pq.os))
          have d0 := cell_next c0 _ (Bq pq.d pq.os)
          have d1 := cell_next c1 _ (Bq pq.d pq.os)
          have d3 := cell_next c3 _ (Bq pq.d pq.os)
          have d4 := cell_next c4 _ (Bq pq.d pq.os)
          have d5 := cell_next c5 _ (Bq pq.d pq.os)
          generalize Go.Sort.grow (redrawn w4 pq.d) pq.os = w5 at *
          have HRB5 : Hid (RB w5 (.slice xda xd.length xdc) xd) := Lib.hid (HOK.out.rb.below HB5.out)
          have HKZ5 : Hid (KZ w5 xka xke) := Lib.hid (HOK.out.kz.below HB5.out)
          have hdb : D.done < 4611686018427387904 := by omega
          have HCut : Hid (∀ D' W F', DI W w0.heap.size p F' D' → ZStep D D' → Below w0.heap.size w0 W → ∃ D' F', DI W w0.heap.size p F' D' ∧ ZInv D' ∧ D'.n = n0 ∧ D'.size = s0 ∧ D'.op = o0 ∧ D'.done ≤ n + 1 ∧ Below w0.heap.size w0 W) := Lib.hid fun D' W F' h1 h2 h3 => ⟨D', F', h1, h2.inv, h2.n.trans EN.out, h2.size.trans ES.out, h2.op.trans EO.out, by have := h2.done; omega, h3⟩
          clear c0 c1 c2 c3 c4 c5 dd1 hst hpt Bq HB4 HD4
          go_upto_block 2 with (fail)
          go_cut [10] from 47 to 96 (fun e wx => ∃ D' F', DI wx w0.heap.size p F' D' ∧ ZInv D' ∧ D'.n = n0 ∧ D'.size = s0 ∧ D'.op = o0 ∧ D'.done ≤ n + 1 ∧ Below w0.heap.size w0 wx)
          case first =>
           have h7 : xk = 1 ∨ xk = 3 ∨ xk = 4 ∨ xk = 5 ∨ xk = 6 ∨ xk = 7 ∨ (xk ≠ 1 ∧ xk ≠ 3 ∧ xk ≠ 4 ∧ xk ≠ 5 ∧ xk ≠ 6 ∧ xk ≠ 7) := by omega
           rcases h7 with rfl | rfl | rfl | rfl | rfl | rfl | ⟨k1, k3, k4, k5, k6, k7⟩
           · by_cases hs2 : zst D xz = 2
             · obtain ⟨z1, z2⟩ := zapp_full (m := xd) hs2
               have Hca := Lib.hid (HD5.out.append (D' := (zapp D xz xd).1) (er := (zapp D xz xd).2) hdb xz HRB5.out (by omega) rfl)
               rw [z1] at Hca
               generalize (zapp D xz xd).2 = er at *
               have hst2 : (zst D xz == 2) = true := by rw [beq_iff_eq]; exact hs2
               clear z1 d0 hs2
               go_wp2_with fail; (with_reducible refine (Hca.out).mono ?_); rintro e w6 ⟨rfl, ho6⟩
               have hb6 := ho6.below HD5.out
               have k1 := cell_blkz (j := 1) (ho6.2.block q4 (World.block_lt_of_cell? w5 _ d1) (fun hf => by have := HFq.out _ hf; omega))
               rw [d1] at k1
               obtain ⟨⟨F6, hD6, _⟩, _⟩ := ho6
               have Hp6 := Lib.hid (hD6.pointer xz)
               have HD6 := Lib.hid hD6
               have HB6 := Lib.hid (HB5.out.trans hb6)
               clear hD6 hb6
               go_wp2_with fail; (with_reducible refine (Hp6.out).mono ?_); rintro e w6 ⟨rfl, rfl⟩
               go_wp2
               go_meet
               exact HCut.out _ w6 F6 HD6.out (ZStep.refl HI.out) HB6.out
             · have Hca := Lib.hid (HD5.out.append (D' := (zapp D xz xd).1) (er := (zapp D xz xd).2) hdb xz HRB5.out (by omega) rfl)
               have Hin := Lib.hid (zapp_step HI.out HD5.out.ok xz xd)
               have hsf : (zst D xz == 2) = false := by rw [beq_eq_false_iff_ne]; exact hs2
               generalize zapp D xz xd = zr at *
               generalize zst D xz = zs at *
               clear hs2 d0
               go_wp2_with fail; (with_reducible refine (Hca.out).mono ?_); rintro e w6 ⟨rfl, ho6⟩
               have hb6 := ho6.below HD5.out
               obtain ⟨⟨F6, hD6, _⟩, _⟩ := ho6
               have HD6 := Lib.hid hD6
               have HB6 := Lib.hid (HB5.out.trans hb6)
               clear hD6 hb6
               go_wp2
               go_meet
               exact HCut.out _ w6 F6 HD6.out Hin.out HB6.out
           · have Hca := Lib.hid (HD5.out.reset (D' := (zrst D xz).1) (er := (zrst D xz).2) hdb xz rfl)
             have Hin := Lib.hid (zrst_step HI.out xz)
             clear d0
             go_wp2_with fail; (with_reducible refine (Hca.out).mono ?_); rintro e w6 ⟨rfl, ho6⟩
             have hb6 := ho6.below HD5.out
             obtain ⟨⟨F6, hD6, _⟩, _⟩ := ho6
             have HD6 := Lib.hid hD6
             have HB6 := Lib.hid (HB5.out.trans hb6)
             clear hD6 hb6
             go_wp2
             go_meet
             exact HCut.out _ w6 F6 HD6.out Hin.out HB6.out
           · have Hca := Lib.hid (HD5.out.finish (D' := (zfin D xz).1) (er := (zfin D xz).2) hdb xz rfl)
             have Hin := Lib.hid (zfin_step HI.out xz)
             clear d0
             go_wp2_with fail; (with_reducible refine (Hca.out).mono ?_); rintro e w6 ⟨rfl, ho6⟩
             have hb6 := ho6.below HD5.out
             obtain ⟨⟨F6, hD6, _⟩, _⟩ := ho6
             have HD6 := Lib.hid hD6
             have HB6 := Lib.hid (HB5.out.trans hb6)
             clear hD6 hb6
             go_wp2
             go_meet
             exact HCut.out _ w6 F6 HD6.out Hin.out HB6.out
           · have Hca := Lib.hid (HD5.out.flush (D' := (zflu D).1) (er := (zflu D).2) hdb rfl)
             have Hin := Lib.hid (zflu_step HI.out)
             clear d0
             go_wp2_with fail; (with_reducible refine (Hca.out).mono ?_); rintro e w6 ⟨rfl, ho6⟩
             have hb6 := ho6.below HD5.out
             obtain ⟨⟨F6, hD6, _⟩, _⟩ := ho6
             have HD6 := Lib.hid hD6
             have HB6 := Lib.hid (HB5.out.trans hb6)
             clear hD6 hb6
             go_wp2
             go_meet
             exact HCut.out _ w6 F6 HD6.out Hin.out HB6.out
           · have Hca := Lib.hid (HD5.out.arm xn HOK.out.nb)
             have Hin := Lib.hid (zarm_step HI.out xn)
             clear d0
             go_wp2_with fail; (with_reducible refine (Hca.out).mono ?_); rintro e w6 ⟨rfl, ho6⟩
             have hb6 := ho6.below HD5.out
             obtain ⟨⟨F6, hD6, _⟩, _⟩ := ho6
             have HD6 := Lib.hid hD6
             have HB6 := Lib.hid (HB5.out.trans hb6)
             clear hD6 hb6
             go_wp2
             go_meet
             exact HCut.out _ w6 F6 HD6.out Hin.out HB6.out
           · have Hca := Lib.hid (HD5.out.crash (ck := xkc) HKZ5.out rfl (by omega) (fun hp b off e hf => by have h1 : b < w0.heap.size := KZ.lt (w := w0) (a := xka) (l := xke) HOK.out.kz hp b off e; have h2 := (HD5.out.ge _ hf).1; omega) rfl)
             have Hin := Lib.hid (zcrs_step HI.out HD5.out.ok xke)
             clear d0
             go_wp2_with fail; (with_reducible refine (Hca.out).mono ?_); rintro e w6 ⟨rfl, ho6⟩
             have hb6 := ho6.below HD5.out
             obtain ⟨⟨F6, hD6, _⟩, _⟩ := ho6
             have HD6 := Lib.hid hD6
             have HB6 := Lib.hid (HB5.out.trans hb6)
             clear hD6 hb6
             go_wp2
             go_meet
             exact HCut.out _ w6 F6 HD6.out Hin.out HB6.out
           · go_wp2
             go_meet
             exact HCut.out _ w5 F HD5.out (ZStep.refl HI.out) HB5.out
          case rest =>
            obtain ⟨D', F', hD', hI', en', es', eo', hdn', hbx⟩ := hcut
            have HD' := Lib.hid hD'
            have HI' := Lib.hid hI'
            have HBX := Lib.hid hbx
            have EN' := Lib.hid en'
            have EO' := Lib.hid eo'
            have ES' := Lib.hid es'
            have e0 := cell_next g0 _ hbx
            have e1 := cell_next g1 _ hbx
            have e2 := cell_next g2 _ hbx
            have hlA' := hD'.lenA
            rw [en'] at hlA'
            have HlA' := Lib.hid hlA'
            have hok' := hD'.ok
            have hn64 : n0 ≤ 64 := by rw [← en']; exact hok'.n2
            have HOK' := Lib.hid hok'
            clear hD' hI' hbx en' eo' es' hlA' hok' HCut HRB5 HKZ5 HB5 HD5 HOK d0 d1 d3 d4 d5 HFq HI EN ES EO
            generalize hwc : wc = w8 at *
            clear hwc
            go_wp2
            go_loopw [11, 99] (fun c i wr => ∃ m : Nat, m ≤ n0 ∧ i = .int .i64 m ∧ c = .int .i64 (zopn (D'.A.take m) : Nat) ∧ Below w8.heap.size w8 wr) (fun _ i _ => n0 - (intOf i).toNat)
            case atStart => exact ⟨0, Nat.zero_le _, rfl, rfl, Below.refl _ _⟩
            case round =>
              obtain ⟨m, hm, rfl, rfl, hbz⟩ := hrel
              by_cases hltm : m < n0
              · have hmA : m < D'.A.length := by rw [HlA'.out]; exact hltm
                have h1 := HOK'.out.zs _ (List.getElem_mem hmA)
                have h2 := HI'.out.emp _ (List.getElem_mem hmA)
                have h3 := zopn_succ D'.A m hmA
                have h4 := zopn_le (D'.A.take m)
                rw [List.length_take] at h4
                have HDm : ∀ W, Below wr.heap.size wr W → DI W w0.heap.size p F' D' := fun W hW => HD'.out.below (bnext hbz hW)
                have hst : Hid (∀ W, Below wr.heap.size wr W → Calls Try.prog 15 #[.pointer (some ⟨p, 0, none⟩), .int .i64 (m : Nat)] W fun e w' => e = .returned (.int .i64 (D'.A[m].st : Nat)) ∧ W = w') := Lib.hid fun W hW => by rw [← zst_at m hmA]; exact (HDm W hW).state m
                have hpt : Hid (∀ W, Below wr.heap.size wr W → Calls Try.prog 12 #[.pointer (some ⟨p, 0, none⟩), .int .i64 (m : Nat)] W fun e w' => e = .returned (.int .i64 (D'.A[m].b.length : Nat)) ∧ Below W.heap.size W w') := Lib.hid fun W hW => by rw [← zpt_at m hmA]; exact ((HDm W hW).pointer m).mono fun e w' ⟨h1, h2⟩ => ⟨h1, by rw [← h2]; exact Below.refl _ _⟩
                have hfl : Hid (∀ W, Below wr.heap.size wr W → Calls Try.prog 21 #[.pointer (some ⟨p, 0, none⟩), .int .i64 (m : Nat)] W fun e w' => e = .returned (.int .i64 (D'.A[m].fl : Nat)) ∧ Below W.heap.size W w') := Lib.hid fun W hW => by rw [← zfl_at m hmA]; exact ((HDm W hW).flushed m).mono fun e w' ⟨h1, h2⟩ => ⟨h1, by rw [← h2]; exact Below.refl _ _⟩
                have k1 : D'.A[m].b.length ≤ s0 := by rw [← ES'.out]; exact h1.len
                have k2 := h1.fl
                have k3 := h1.st
                have k4 : D'.A[m].st = 0 → D'.A[m].b.length = 0 := fun e => by rw [h2 e]; rfl
                have m1 := cell_next e1 _ hbz
                have dd1 := cell_next m1
                have Bq := bnext_grow (Below.refl wr.heap.size wr)
                have hz64 : zopn (D'.A.take m) ≤ 64 := by omega
                clear h1 h2 h4 HDm
                generalize D'.A[m].st = s at *
                generalize D'.A[m].b.length = bl at *
                generalize D'.A[m].fl = fl at *
                generalize zopn (D'.A.take m) = z0 at *
                have H3 := Lib.hid h3
                clear h3
                go_wp2_with fail; (with_reducible refine (hst.out _ (Below.refl _ _)).mono ?_); rintro e wr ⟨rfl, rfl⟩
                go_upto_region 28 with (fail)
                go_cut [137] from 105 to 137 (fun t wx => t = .bool false ∧ Below wr.heap.size wr wx)
                case first =>
                  have hs3 : s = 0 ∨ s = 1 ∨ s = 2 := by omega
                  rcases hs3 with rfl | rfl | rfl
                  · have hb0 := k4 rfl
                    subst hb0
                    obtain rfl : fl = 0 := by omega
                    have q1 : decide ((s0 : Int) < 0) = false := decide_eq_false (by omega)
                    have q2 : ¬ ((s0 : Int) < 0) := by omega
                    clear k4 k1 k2 k3
                    refine wp_region_quiet_below (by kernel_rfl) (by kernel_rfl) ?_; (repeat (go_big_quiet_step ((first | (go_at_call 21; (with_reducible refine Calls.regrown_of (hfl.out _ (Bq _ _)))) | (go_at_call 12; (with_reducible refine Calls.regrown_of (hpt.out _ (Bq _ _)))))))); refine wpQuiet_nil ?_; rintro _ ⟨pq, rfl⟩
                    go_wp2
                    go_meet
                    exact ⟨rfl, Bq _ _⟩
                  · have q1 : decide (s0 < bl) = false := decide_eq_false (by omega)
                    have q2 : ¬ (s0 < bl) := by omega
                    have q3 : decide (bl < fl) = false := decide_eq_false (by omega)
                    have q4 : ¬ (bl < fl) := by omega
                    have q5 : decide ((s0 : Int) < (bl : Int)) = false := decide_eq_false (by omega)
                    have q6 : decide ((bl : Int) < (fl : Int)) = false := decide_eq_false (by omega)
                    clear k4
                    refine wp_region_quiet_below (by kernel_rfl) (by kernel_rfl) ?_; (repeat (go_big_quiet_step ((first | (go_at_call 21; (with_reducible refine Calls.regrown_of (hfl.out _ (Bq _ _)))) | (go_at_call 12; (with_reducible refine Calls.regrown_of (hpt.out _ (Bq _ _)))))))); refine wpQuiet_nil ?_; rintro _ ⟨pq, rfl⟩
                    go_wp2
                    go_meet
                    exact ⟨rfl, Bq _ _⟩
                  · have q1 : decide (s0 < bl) = false := decide_eq_false (by omega)
                    have q2 : ¬ (s0 < bl) := by omega
                    have q3 : decide (bl < fl) = false := decide_eq_false (by omega)
                    have q4 : ¬ (bl < fl) := by omega
                    have q5 : decide ((s0 : Int) < (bl : Int)) = false := decide_eq_false (by omega)
                    have q6 : decide ((bl : Int) < (fl : Int)) = false := decide_eq_false (by omega)
                    clear k4
                    refine wp_region_quiet_below (by kernel_rfl) (by kernel_rfl) ?_; (repeat (go_big_quiet_step ((first | (go_at_call 21; (with_reducible refine Calls.regrown_of (hfl.out _ (Bq _ _)))) | (go_at_call 12; (with_reducible refine Calls.regrown_of (hpt.out _ (Bq _ _)))))))); refine wpQuiet_nil ?_; rintro _ ⟨pq, rfl⟩
                    go_wp2
                    go_meet
                    exact ⟨rfl, Bq _ _⟩
                case rest =>
                  obtain ⟨rfl, hb9⟩ := hcut
                  have HB9 := Lib.hid (bnext hbz hb9)
                  clear hb9 hbz Bq dd1 m1 hst hpt hfl k4 k1 k2
                  by_cases hs1 : s = 1
                  · have h5 := H3.out
                    rw [if_pos hs1] at h5
                    have H5 := Lib.hid h5
                    subst hs1
                    clear h5
                    go_wp2
                    go_roundw
                    case rel => exact ⟨m + 1, by omega, by go_num, by rw [H5.out]; go_num, HB9.out⟩
                    case measure => simp [intOf]; omega
                  · have h5 := H3.out
                    rw [if_neg hs1] at h5
                    have H5 := Lib.hid h5
                    have hs1f : (((s : Nat) : Int) == 1) = false := by rw [beq_eq_false_iff_ne]; omega
                    clear h5
                    go_wp2
                    go_roundw
                    case rel => exact ⟨m + 1, by omega, by go_num, by rw [H5.out]; rfl, HB9.out⟩
                    case measure => simp [intOf]; omega
              · have e : D'.A.take m = D'.A := List.take_of_length_le (by rw [HlA'.out]; omega)
                have Hop := Lib.hid (HD'.out.below hbz).opened
                have hle : zopn D'.A ≤ o0 := by rw [← EO'.out]; exact HI'.out.opn
                rw [e]
                have m2 := cell_next e2 _ hbz
                have HBZ := Lib.hid (bnext HBX.out hbz)
                have HDz := Lib.hid (HD'.out.below hbz)
                clear e hbz
                generalize zopn D'.A = zo at *
                go_wp2_with fail; (with_reducible refine (Hop.out).mono ?_); rintro e w9 ⟨rfl, hb9⟩
                have m3 := cell_next m2 _ hb9
                have HDf : Hid (DI w9 w0.heap.size p F' D') := Lib.hid (HDz.out.below hb9)
                have HB9 := Lib.hid (bnext HBZ.out hb9)
                clear hb9 m2
                go_wp2
                go_roundw
                case rel => exact ⟨n + 1, D', F', by omega, by go_num, HDf.out, HI'.out, EN'.out, ES'.out, EO'.out, by omega, HB9.out⟩
                case measure => simp [intOf]; omega
        · go_wp2_with fail; (with_reducible refine (awake07 _).mono ?_); rintro e w4 ⟨rfl, hb4⟩
          go_wp2
          go_ret
          exact ⟨rfl, by rw [HQ.out]; exact HB0.out.trans ((bnext HBR.out hb4).mono HS0.out)⟩
end Go.Proofs.Ytijgbciaifdbeaa
