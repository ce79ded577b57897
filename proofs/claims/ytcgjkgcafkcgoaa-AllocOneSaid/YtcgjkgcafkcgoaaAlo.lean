/- AllocOne: its walk. -/
import Derived.Test.YtcgjkgcafkcgoaaAlp
import Derived.Test.YtcgjkgcafkcgoaaOp8
import Derived.Deep.QuietTactic
import Derived.BigQuiet
namespace Go.Proofs.Ytcgjkgcafkcgoaa
open Go.RowKit
set_option linter.unusedVariables false
set_option linter.unusedSimpArgs false

/-- the state of AllocOne's loop -/
def OneI (w0 w : World) (p d bb N : Nat) (k : Nat) : Prop :=
  ∃ (H : Nat → Prop) (R : List Int) (hs : List Bool) (Q : List Int) (D : Dv), AT w w0.heap.size p d H R Q D ∧ AInv N R hs Q ∧ DFree D N k ∧ BR w w0.heap.size bb N hs ∧ ¬ H bb ∧ Below w0.heap.size w0 w
theorem row_kz {w : World} {B : Nat} {a : Option Addr} {c : Nat} {Q : List Int} (h : w.ownsRow B 3 1 (.slice a Q.length c) Q.length (ivs Q)) : KZ w a Q := fun hp => by
  rcases h.2 with ⟨e1, _⟩ | ⟨x, cap, cur, e1, _⟩
  · simp only [Value.slice.injEq] at e1; have := e1.2.1; omega
  · simp only [Value.slice.injEq] at e1
    obtain ⟨rfl, _, rfl⟩ := e1
    refine ⟨x, 0, rfl, fun i hi => ?_⟩
    rw [Nat.zero_add, World.ownsRow.cellAt h i (by omega)]
    simp [ivs, hi]
theorem AInv.ql {N : Nat} {R : List Int} {hs : List Bool} {Q : List Int} (h : AInv N R hs Q) : Q.length ≤ N := by
  rw [h.cnt, ← h.len]; exact List.count_le_length
set_option maxRecDepth 100000 in
set_option maxHeartbeats 16000000 in
theorem one_walk {w : World} {a : Option Addr} {c : Nat} {l : List O8} (h : O8s w a l) (hl : l.length ≤ maxLen) (zs : Int) :
    Calls Try.prog 5 #[.int .i64 zs, .slice a l.length c] w fun e w' => e = .returned (.bool true) ∧ Below w.heap.size w w' := by
  unfold maxLen at hl
  have HK := Lib.hid h
  clear h
  by_cases hzs : zs < 1 ∨ 64 < zs
  · have Hn := Lib.hid (alnew_bad zs w hzs)
    have Hd := Lib.hid (aldev_nil zs w hzs)
    rcases hzs with h1 | h1
    all_goals
      go_enter Try.func5, Try.ntmps5
      go_wp2_with fail; (with_reducible refine (Hn.out).mono ?_); rintro e w1 ⟨rfl, rfl⟩
      go_wp2_with fail; (with_reducible refine (Hd.out).mono ?_); rintro e w2 ⟨rfl, hb2⟩
      go_wp2_with fail; (with_reducible refine (alawake _).mono ?_); rintro e w3 ⟨rfl, hb3⟩
      go_wp2
      go_ret
      exact ⟨rfl, bnext hb2 hb3⟩
  · obtain ⟨N, rfl⟩ := Int.eq_ofNat_of_zero_le (show 0 ≤ zs by omega)
    have hN1 : 1 ≤ N := by omega
    have hN2 : N ≤ 64 := by omega
    clear hzs
    have Hn := Lib.hid (alnew N w hN1 hN2)
    go_enter Try.func5, Try.ntmps5
    go_wp2_with fail; (with_reducible refine (Hn.out).mono ?_); rintro e w1 ⟨p, g, rfl, hT1, hb1⟩
    have HT1 := Lib.hid hT1
    have HB1 := Lib.hid hb1
    clear hT1 hb1 Hn
    go_wp2_with fail; (with_reducible refine (aldev N _ hN1 hN2).mono ?_); rintro e w2 ⟨d, G, rfl, hD2, hb2⟩
    have hat := AT.new HT1.out hb2 hD2
    have HB2 := Lib.hid (bnext HB1.out hb2)
    obtain ⟨H0, hA0⟩ := hat
    have HA0 := Lib.hid hA0
    clear HT1 HB1 hb2 hD2 hA0
    by_cases hlc : l.length ≤ 120
    case neg =>
      go_wp2_with fail; (with_reducible refine (alawake _).mono ?_); rintro e w3 ⟨rfl, hb3⟩
      go_wp2
      go_ret
      exact ⟨rfl, bnext HB2.out hb3⟩
    have hbz2 := HB2.out.size
    go_wp2_with (at_make; go_loud (refine wpList_mkbo rfl (.tmp 50) (.tmp 50) rfl w.heap.size N rfl rfl (by omega) hbz2 ?_); intro w3 ho3 hb3; have HO3 : Hid (BR w3 w.heap.size w2.heap.size N (List.replicate N false)) := Lib.hid ho3; have HA3 := Lib.hid (HA0.out.below hb3); have HB3 := Lib.hid (bnext HB2.out hb3); have HN3 : Hid (¬ H0 w2.heap.size) := Lib.hid (fun hh => by have := (HA0.out.ge _ hh).2; omega); clear ho3 hb3 HA0 HB2)
    generalize w2.heap.size = bb at *
    go_loopw [54] (fun i wr => ∃ m : Nat, m ≤ l.length ∧ i = .int .i64 m ∧ OneI w wr p d bb N m) (fun i _ => l.length - (intOf i).toNat)
    case atStart => exact ⟨0, Nat.zero_le _, rfl, H0, _, _, [], _, HA3.out, ainv0 N, ⟨rfl, rfl, rfl, Nat.le_refl _⟩, HO3.out, HN3.out, HB3.out⟩
    case round =>
      clear HA3 HO3 HN3 HB3
      obtain ⟨m, hm, rfl, H, R, hs, Q, D, hA, hI, hDF, hO, hN, hbr⟩ := hrel
      have HA := Lib.hid hA
      have HI := Lib.hid hI
      have HDF := Lib.hid hDF
      have HO := Lib.hid hO
      have HN := Lib.hid hN
      have HBR := Lib.hid hbr
      clear hA hI hDF hO hN
      by_cases hlt : m < l.length
      · obtain ⟨b, off, rfl, f0, f1, f2⟩ := HK.out.cells hbr m hlt
        clear hbr
        generalize l[m] = x at *
        obtain ⟨xk, xz, xn⟩ := x
        simp only at f0 f1 f2
        go_upto_region 8 with (fail)
        refine gen_wp (fun w' => w' = (wr.alloc (.cells #[.int .i64 xk, .int .i64 xz, .int .i64 xn] 42))) rfl ?_
        rintro w4 hw4
        obtain ⟨q0, q1, q2⟩ := box3 wr (.int .i64 xk) (.int .i64 xz) (.int .i64 xn) 42
        have hb4 : Below wr.heap.size wr (wr.alloc (.cells #[.int .i64 xk, .int .i64 xz, .int .i64 xn] 42)) := (Below.refl _ wr).alloc (Nat.le_refl _) _
        have hqb : wr.heap.size < (wr.alloc (.cells #[.int .i64 xk, .int .i64 xz, .int .i64 xn] 42)).heap.size := by simp
        rw [← hw4] at q0 q1 q2 hb4 hqb
        clear hw4
        have HHq : Hid (¬ H wr.heap.size) := Lib.hid fun hh => by have := (HA.out.ge _ hh).2; omega
        have Hbq : Hid (bb ≠ wr.heap.size) := Lib.hid fun e => by have := HO.out.lt.2; omega
        have HA4 := Lib.hid (HA.out.below hb4)
        have HO4 := Lib.hid (HO.out.below hb4)
        have HB4 := Lib.hid (bnext HBR.out hb4)
        clear hb4 f0 f1 f2 HA HO HBR
        generalize wr.heap.size = qb at *
        have HSt : Hid (∀ W, OneI w W p d bb N m → OneI w W p d bb N (m + 1)) := Lib.hid fun W ⟨H, R, hs, Q, D, h1, h2, h3, h4⟩ => ⟨H, R, hs, Q, D, h1, h2, ⟨h3.down, h3.left, h3.n, Nat.le_succ_of_le h3.done⟩, h4⟩
        go_upto_block 2 with (fail)
        go_cut [10, 11, 12, 13] from 60 to 136 (fun _ _ _ _ wx => OneI w wx p d bb N (m + 1))
        case first =>
          have h5 : xk = 1 ∨ xk = 2 ∨ xk = 3 ∨ xk = 4 ∨ (xk ≠ 1 ∧ xk ≠ 2 ∧ xk ≠ 3 ∧ xk ≠ 4) := by omega
          rcases h5 with rfl | rfl | rfl | rfl | ⟨k1, k2, k3, k4⟩
          · by_cases hu : 1 ≤ xn ∧ xn ≤ 5
            · by_cases h0 : R.count 0 = 0
              · have Htk := Lib.hid (HA4.out.take_none xn hu h0)
                clear h0 hu
                go_wp2_with fail; (with_reducible refine (Htk.out).mono ?_); rintro e w4 ⟨rfl, rfl⟩
                go_wp2
                go_meet
                exact HSt.out _ ⟨H, R, hs, Q, D, HA4.out, HI.out, HDF.out, HO4.out, HN.out, HB4.out⟩
              · have hz : ∃ n : Nat, ∃ hn : n < R.length, R[n] = 0 ∧ ∀ i (hi : i < R.length), i < n → R[i] ≠ 0 := by
                  have hmem : (0 : Int) ∈ R := List.count_pos_iff.1 (by omega)
                  refine ⟨R.idxOf 0, List.idxOf_lt_length_iff.2 hmem, List.getElem_idxOf _, fun i hi hlt he => ?_⟩
                  have := List.not_of_lt_findIdx (p := (· == (0 : Int))) (xs := R) (i := i) hlt
                  simp [he] at this
                obtain ⟨n, hn, hn0, hlow⟩ := hz
                have Htk := Lib.hid (HA4.out.take xn hu n hn hn0 hlow)
                have HI2 := Lib.hid (HI.out.take n hn hn0 xn hu)
                have hnN : n < N := by rw [← HI.out.len]; exact hn
                have hns : n < hs.length := by rw [HI.out.hl]; exact hnN
                have hhas := HI.out.has n hn hns
                rw [hn0] at hhas
                have hhas2 : hs[n] = false := hhas
                have Hhas := Lib.hid hhas2
                clear h0 hlow hhas hhas2 hn0
                go_wp2_with fail; (with_reducible refine (Htk.out).mono ?_); rintro e w5 ⟨rfl, ho5⟩
                have hb5 := ho5.below HA4.out.ge HA4.out.room
                have r2 := cell_blkz (j := 2) (ho5.2.block qb hqb HHq.out)
                rw [q2] at r2
                obtain ⟨H5, hA5, hO5, hN5⟩ := ho5.keepB HO4.out HN.out
                have k0 := hO5.cell n hns
                rw [Hhas.out] at k0
                have kf := hO5.fz n
                have HB5 := Lib.hid (HB4.out.trans hb5)
                have HA5 := Lib.hid hA5
                have HO5 := Lib.hid hO5
                have HN5 := Lib.hid hN5
                have hro := hA5.role n
                rw [roleAt_in (by rw [List.length_set]; exact hn), List.getElem_set_self] at hro
                have HRO : Hid (∀ W, Below w5.heap.size w5 W → Calls Try.prog 13 #[.pointer (some ⟨p, 0, none⟩), .int .i64 n] W fun e w' => e = .returned (.int .i64 xn) ∧ Below W.heap.size W w') := Lib.hid fun W hW => by
                  have h1 := (HA5.out.below hW).role n
                  rw [roleAt_in (by rw [List.length_set]; exact hn), List.getElem_set_self] at h1
                  exact h1.mono fun e w' ⟨a, b⟩ => ⟨a, by rw [← b]; exact Below.refl _ _⟩
                have Bq := bnext_grow (Below.refl w5.heap.size w5)
                have dk0 := cell_next k0
                have dr2 := cell_next r2
                clear ho5 hb5 hA5 hO5 hN5 hro Htk q0 q1 q2
                go_upto_region 12 with (fail)
                refine wp_region_quiet_below (by kernel_rfl) (by kernel_rfl) ?_; (repeat (go_big_quiet_step ((go_at_call 13; (with_reducible refine Calls.regrown_of (HRO.out _ (Bq _ _))))))); refine wpQuiet_nil ?_; rintro _ ⟨pq, rfl⟩
                have hB6 := Bq pq.d pq.os
                generalize Go.Sort.grow (redrawn w5 pq.d) pq.os = w6 at *
                have hO6 := HO5.out.below hB6
                have j0 := hO6.cell n hns
                have jf := hO6.fz n
                have hA6 := (HA5.out.below hB6).chg (Chg.set w6 bb n (.bool true)) (fun k hk e => HN5.out (by rw [← e]; exact hk))
                have hset := hO6.set n true
                have hlow := hO6.lt.1
                have HX : Hid (OneI w (w6.setCell ⟨bb, n, none⟩ (.bool true)) p d bb N (m + 1)) := Lib.hid (HSt.out _ ⟨H5, _, _, Q, D, hA6, HI2.out, HDF.out, hset, HN5.out, (HB5.out.trans (hB6.mono (HB5.out.size))).setCell (p := ⟨bb, n, none⟩) hlow _⟩)
                clear hB6 hO6 hA6 hset hlow dk0 dr2 k0 kf r2 Bq HRO
                go_wp2
                go_meet
                exact HX.out
            · have Htk := Lib.hid (HA4.out.take_bad xn hu)
              clear hu
              go_wp2_with fail; (with_reducible refine (Htk.out).mono ?_); rintro e w4 ⟨rfl, rfl⟩
              go_wp2
              go_meet
              exact HSt.out _ ⟨H, R, hs, Q, D, HA4.out, HI.out, HDF.out, HO4.out, HN.out, HB4.out⟩
          · by_cases hz : roleAt R xz = 0 ∧ 1 ≤ xn ∧ xn ≤ 5
            · obtain ⟨hz0, hu⟩ := hz
              obtain ⟨n, hn, rfl, hn0⟩ := roleAt_zero hz0
              have Hre := Lib.hid (HA4.out.own n xn hn hn0 hu)
              have HI2 := Lib.hid (HI.out.take n hn hn0 xn hu)
              have hnN : n < N := by rw [← HI.out.len]; exact hn
              have hns : n < hs.length := by rw [HI.out.hl]; exact hnN
              have hhas := HI.out.has n hn hns
              rw [hn0] at hhas
              have hhas2 : hs[n] = false := hhas
              have Hhas := Lib.hid hhas2
              clear hz0 hhas hhas2 hn0 hu
              go_wp2_with fail; (with_reducible refine (Hre.out).mono ?_); rintro e w5 ⟨rfl, ho5⟩
              have hb5 := ho5.below HA4.out.ge HA4.out.room
              have r1 := cell_blkz (j := 1) (ho5.2.block qb hqb HHq.out)
              rw [q1] at r1
              obtain ⟨H5, hA5, hO5, hN5⟩ := ho5.keepB HO4.out HN.out
              have k0 := hO5.cell n hns
              rw [Hhas.out] at k0
              have kf := hO5.fz n
              have hA6 := hA5.chg (Chg.set w5 bb n (.bool true)) (fun k hk e => hN5 (by rw [← e]; exact hk))
              have hset := hO5.set n true
              have hlow := hO5.lt.1
              have HX : Hid (OneI w (w5.setCell ⟨bb, n, none⟩ (.bool true)) p d bb N (m + 1)) := Lib.hid (HSt.out _ ⟨H5, _, _, Q, D, hA6, HI2.out, HDF.out, hset, hN5, (HB4.out.trans hb5).setCell (p := ⟨bb, n, none⟩) hlow _⟩)
              clear ho5 hb5 hA5 hO5 hN5 hA6 hset hlow Hre q0 q1 q2
              go_wp2
              go_meet
              exact HX.out
            · have Hre := Lib.hid (HA4.out.own_no xz xn hz)
              clear hz
              go_wp2_with fail; (with_reducible refine (Hre.out).mono ?_); rintro e w5 ⟨er, rfl, her, rfl⟩
              go_wp2
              go_meet
              exact HSt.out _ ⟨H, R, hs, Q, D, HA4.out, HI.out, HDF.out, HO4.out, HN.out, HB4.out⟩
          · by_cases hu : 1 ≤ roleAt R xz ∧ roleAt R xz ≤ 5
            · obtain ⟨n, hn, rfl, hu1, hu2⟩ := roleAt_used hu
              have hQl := HI.out.ql
              have Hre := Lib.hid (HA4.out.release n hn ⟨hu1, hu2⟩ (by omega))
              have HI2 := Lib.hid (HI.out.release n hn ⟨hu1, hu2⟩)
              have hnN : n < N := by rw [← HI.out.len]; exact hn
              have hns : n < hs.length := by rw [HI.out.hl]; exact hnN
              have hhas := HI.out.has n hn hns
              rw [decide_eq_true (by omega)] at hhas
              have Hhas := Lib.hid hhas
              clear hu hhas hu1 hu2
              go_wp2_with fail; (with_reducible refine (Hre.out).mono ?_); rintro e w5 ⟨rfl, ho5⟩
              have hb5 := ho5.below HA4.out.ge HA4.out.room
              have r1 := cell_blkz (j := 1) (ho5.2.block qb hqb HHq.out)
              rw [q1] at r1
              obtain ⟨H5, hA5, hO5, hN5⟩ := ho5.keepB HO4.out HN.out
              have k0 := hO5.cell n hns
              rw [Hhas.out] at k0
              have HX : Hid (OneI w w5 p d bb N (m + 1)) := Lib.hid (HSt.out _ ⟨H5, _, _, _, D, hA5, HI2.out, HDF.out, hO5, hN5, HB4.out.trans hb5⟩)
              clear ho5 hb5 hA5 hO5 hN5 Hre q0 q1 q2
              go_wp2
              go_meet
              exact HX.out
            · have hre := HA4.out.release_no xz hu
              obtain ⟨er, her, hne⟩ : ∃ er : Int, (if roleAt R xz = -1 then (70 : Int) else 80) = er ∧ (er == 0) = false := ⟨_, rfl, by split <;> rfl⟩
              rw [her] at hre
              have Hre := Lib.hid hre
              clear hre her hu
              go_wp2_with fail; (with_reducible refine (Hre.out).mono ?_); rintro e w4 ⟨rfl, rfl⟩
              go_wp2
              go_meet
              exact HSt.out _ ⟨H, R, hs, Q, D, HA4.out, HI.out, HDF.out, HO4.out, HN.out, HB4.out⟩
          · cases Q with
            | nil =>
              have Hrs := Lib.hid HA4.out.reset_nil
              go_wp2_with fail; (with_reducible refine (Hrs.out).mono ?_); rintro e w4 ⟨rfl, rfl⟩
              go_wp2
              go_meet
              exact HSt.out _ ⟨H, R, hs, [], D, HA4.out, HI.out, HDF.out, HO4.out, HN.out, HB4.out⟩
            | cons z Q =>
              obtain ⟨n, hn, rfl, h6⟩ := HI.out.q z List.mem_cons_self
              have hnN : n < N := by rw [← HI.out.len]; exact hn
              have hns : n < hs.length := by rw [HI.out.hl]; exact hnN
              have hqD : n < D.n := by rw [HDF.out.n]; exact hnN
              obtain ⟨z1, z2, z3, z4, z5⟩ := zrst_free (m := n) HDF.out.down HDF.out.left hqD
              have hdd : D.done < 4611686018427387904 := by have := HDF.out.done; omega
              have hrs := HA4.out.reset hn hdd
              rw [z1] at hrs
              have hrs2 : Calls Try.prog 18 #[.pointer (some ⟨p, 0, none⟩), .pointer (some ⟨d, 0, none⟩)] w4 fun e w' => e = .returned (.tuple #[.int .i64 n, .int .i64 0]) ∧ AOut w4 w.heap.size p d H (R.set n 0) Q (zrst D n).1 w' := hrs.mono fun e w' h => by
                rcases h with ⟨h, _⟩ | ⟨_, h1, h2⟩
                · exact absurd rfl h
                · exact ⟨h1, h2⟩
              have HI2 := Lib.hid (HI.out.reset hn h6)
              have HDn : Hid (DFree (zrst D n).1 N (m + 1)) := Lib.hid ⟨z2, z3, z4.trans HDF.out.n, by have := HDF.out.done; omega⟩
              have hhas := HI.out.has n hn hns
              rw [h6] at hhas
              have hhas2 : hs[n] = true := hhas
              have Hhas := Lib.hid hhas2
              have Hrs := Lib.hid hrs2
              clear hrs hrs2 z1 z2 z3 z4 z5 hhas hhas2 h6
              generalize (zrst D n).1 = D2 at *
              go_wp2_with fail; (with_reducible refine (Hrs.out).mono ?_); rintro e w5 ⟨rfl, ho5⟩
              have hb5 := ho5.below HA4.out.ge HA4.out.room
              obtain ⟨H5, hA5, hO5, hN5⟩ := ho5.keepB HO4.out HN.out
              have k0 := hO5.cell n hns
              rw [Hhas.out] at k0
              have kf := hO5.fz n
              have hA6 := hA5.chg (Chg.set w5 bb n (.bool false)) (fun k hk e => hN5 (by rw [← e]; exact hk))
              have hset := hO5.set n false
              have hlow := hO5.lt.1
              have HX : Hid (OneI w (w5.setCell ⟨bb, n, none⟩ (.bool false)) p d bb N (m + 1)) := Lib.hid ⟨H5, _, _, Q, D2, hA6, HI2.out, HDn.out, hset, hN5, (HB4.out.trans hb5).setCell (p := ⟨bb, n, none⟩) hlow _⟩
              clear ho5 hb5 hA5 hO5 hN5 hA6 hset hlow Hrs q0 q1 q2
              go_wp2
              go_meet
              exact HX.out
          · go_wp2
            go_meet
            exact HSt.out _ ⟨H, R, hs, Q, D, HA4.out, HI.out, HDF.out, HO4.out, HN.out, HB4.out⟩
        case rest =>
          clear q0 q1 q2 HA4 HO4 HB4 HI HDF HN HSt HHq Hbq hqb H R hs Q D
          obtain ⟨H, R, hs, Q, D, hA, hI, hDF, hO, hN, hbx⟩ := hcut
          have HA := Lib.hid hA
          have HI := Lib.hid hI
          have HDF := Lib.hid hDF
          have HO := Lib.hid hO
          have HN := Lib.hid hN
          have HBX := Lib.hid hbx
          have hQl := hI.ql
          clear hA hI hDF hO hN hbx
          generalize wc = w8 at *
          go_wp2
          go_loopw [14, 137] (fun c i wr => ∃ r : Nat, r ≤ 7 ∧ i = .int .i64 r ∧ c = .int .i64 (lowc R r : Nat) ∧ Below w8.heap.size w8 wr) (fun _ i _ => 7 - (intOf i).toNat)
          case atStart => exact ⟨0, by decide, rfl, by rw [lowc_zero]; rfl, Below.refl _ _⟩
          case round =>
            obtain ⟨r, hr, rfl, rfl, hby⟩ := hrel
            have hlo := lowc_le R r
            have hrl := HI.out.len
            by_cases hlt2 : r < 7
            · have Hcn := Lib.hid ((HA.out.below hby).count r)
              have hls := lowc_succ R r
              have Hls := Lib.hid hls
              have hcl : R.count (r : Int) ≤ 64 := by have := List.count_le_length (a := (r : Int)) (l := R); omega
              have hlo2 : lowc R r ≤ 64 := by omega
              have HBY := Lib.hid hby
              clear hls hby hlo
              generalize lowc R r = c0 at *
              generalize R.count (r : Int) = c1 at *
              go_wp2_with fail; (with_reducible refine (Hcn.out).mono ?_); rintro e w9 ⟨rfl, hb9⟩
              go_wp2
              go_roundw
              case rel => exact ⟨r + 1, by omega, by go_num, by rw [Hls.out]; go_num, bnext HBY.out hb9⟩
              case measure => simp [intOf]; omega
            · obtain rfl : r = 7 := by omega
              rw [HI.out.all]
              have Hqu := Lib.hid ((HA.out.below hby).queue (by omega))
              have HBY := Lib.hid hby
              clear hby hlo
              go_wp2_with fail; (with_reducible refine (Hqu.out).mono ?_); rintro e w9 ⟨u, rfl, hru, hb9⟩
              obtain ⟨ua, uc, rfl, huc1, huc2, _⟩ := row_shape hru
              unfold maxLen at huc2
              have HU := Lib.hid hru
              have HB9 := Lib.hid (bnext HBY.out hb9)
              have hcn := (HA.out.below HB9.out).count 6
              rw [← HI.out.cnt] at hcn
              have Hcn : Hid (Calls Try.prog 12 #[.pointer (some ⟨p, 0, none⟩), .int .i64 6] w9 fun e w' => e = .returned (.int .i64 (Q.length : Nat)) ∧ Below w9.heap.size w9 w') := Lib.hid hcn
              clear hru hb9 hcn Hqu HBY
              go_wp2_with fail; (with_reducible refine (Hcn.out).mono ?_); rintro e w10 ⟨rfl, hb10⟩
              have HU2 : Hid (w10.ownsRow _ 3 1 (.slice ua Q.length uc) Q.length (ivs Q)) := Lib.hid (row_past HU.out hb10 (Nat.le_refl _))
              have HK2 := Lib.hid (row_kz HU2.out)
              have HB10 := Lib.hid (bnext HB9.out hb10)
              have hQn : ∀ i (hi : i < Q.length), ∃ n : Nat, Q[i] = n ∧ roleAt R n = 6 := fun i hi => by
                obtain ⟨n, hn, e, h6⟩ := HI.out.q _ (List.getElem_mem hi)
                exact ⟨n, e, by rw [roleAt_in hn]; exact h6⟩
              have HQn := Lib.hid hQn
              clear hb10 HU HU2 HB9 Hcn hQn
              go_wp2
              generalize wr = wS at *
              go_loopw [160] (fun i wr => ∃ k : Nat, k ≤ Q.length ∧ i = .int .i64 k ∧ Below w10.heap.size w10 wr) (fun i _ => Q.length - (intOf i).toNat)
              case atStart => exact ⟨0, Nat.zero_le _, rfl, Below.refl _ _⟩
              case round =>
                obtain ⟨k, hk, rfl, hbz⟩ := hrel
                by_cases hlt3 : k < Q.length
                · obtain ⟨kb, ko, rfl, hkc⟩ := (HK2.out.below hbz) (by omega)
                  have f0 := hkc k hlt3
                  obtain ⟨n, hqe, h6⟩ := HQn.out k hlt3
                  have hro := (HA.out.below (bnext HB10.out hbz)).role n
                  rw [h6] at hro
                  have Hro := Lib.hid hro
                  have Hqe := Lib.hid hqe
                  have HKC := Lib.hid hkc
                  have HBZ := Lib.hid hbz
                  have hne : ∀ j (hj : j < Q.length), j < k → (Q[j] == (n : Int)) = false := fun j hj hjk => by
                    rw [beq_eq_false_iff_ne, ← hqe]; exact HI.out.ndat k j hlt3 hj hjk
                  have HNE := Lib.hid hne
                  rw [hqe] at f0
                  clear hkc hro hqe h6 hbz hne
                  go_wp2_with fail; (with_reducible refine (Hro.out).mono ?_); rintro e wr ⟨rfl, rfl⟩
                  go_wp2
                  generalize wr = wT at *
                  go_loopw [173] (fun i wr => ∃ j : Nat, j ≤ k ∧ i = .int .i64 j ∧ Below wT.heap.size wT wr) (fun i _ => k - (intOf i).toNat)
                  case atStart => exact ⟨0, Nat.zero_le _, rfl, Below.refl _ _⟩
                  case round =>
                    clear f0
                    obtain ⟨j, hj, rfl, hbw⟩ := hrel
                    by_cases hlt4 : j < k
                    · have hjQ : j < Q.length := by omega
                      have g0 := cell_next (HKC.out j hjQ) _ hbw
                      have hnj := HNE.out j hjQ hlt4
                      generalize Q[j] = y at *
                      go_wp2
                      go_roundw
                      case rel => exact ⟨j + 1, by omega, by go_num, hbw⟩
                      case measure => simp [intOf]; omega
                    · go_wp2
                      go_roundw
                      case rel => exact ⟨k + 1, by omega, by go_num, bnext HBZ.out hbw⟩
                      case measure => simp [intOf]; omega
                · have HB11 := Lib.hid (bnext HB10.out hbz)
                  clear hbz
                  go_wp2
                  generalize wr = wU at *
                  go_loopw [183] (fun i wr => ∃ z : Nat, z ≤ N ∧ i = .int .i64 z ∧ Below wU.heap.size wU wr) (fun i _ => N - (intOf i).toNat)
                  case atStart => exact ⟨0, Nat.zero_le _, rfl, Below.refl _ _⟩
                  case round =>
                    obtain ⟨z, hz, rfl, hbw⟩ := hrel
                    by_cases hlt5 : z < N
                    · have hzR : z < R.length := by rw [hrl]; exact hlt5
                      have hzs : z < hs.length := by rw [HI.out.hl]; exact hlt5
                      have hAw := HA.out.below (bnext HB11.out hbw)
                      have hOw := HO.out.below (bnext HB11.out hbw)
                      have k0 := hOw.cell z hzs
                      rw [HI.out.has z hzR hzs] at k0
                      have hHR : Hid (∀ W, Below wr.heap.size wr W → Calls Try.prog 13 #[.pointer (some ⟨p, 0, none⟩), .int .i64 z] W fun e w' => e = .returned (.int .i64 R[z]) ∧ Below W.heap.size W w') := Lib.hid fun W hW => by
                        have h1 := (hAw.below hW).role z
                        rw [roleAt_in hzR] at h1
                        exact h1.mono fun e w' ⟨a, b⟩ => ⟨a, by rw [← b]; exact Below.refl _ _⟩
                      have Bq := bnext_grow (Below.refl wr.heap.size wr)
                      clear hAw hOw
                      generalize R[z] = y at *
                      by_cases hy : y = 0
                      · subst hy
                        have k1 : wr.cell? ⟨bb, z, none⟩ = some (.bool false) := k0
                        have dk := cell_next k1
                        clear k0
                        go_upto_region 53 with (fail)
                        refine wp_region_quiet_below (by kernel_rfl) (by kernel_rfl) ?_; (repeat (go_big_quiet_step ((go_at_call 13; (with_reducible refine Calls.regrown_of (hHR.out _ (Bq _ _))))))); refine wpQuiet_nil ?_; rintro _ ⟨pq, rfl⟩
                        go_wp2
                        go_roundw
                        case rel => exact ⟨z + 1, by omega, by go_num, bnext hbw (Bq _ _)⟩
                        case measure => simp [intOf]; omega
                      · have k1 : wr.cell? ⟨bb, z, none⟩ = some (.bool true) := by rw [k0, decide_eq_true hy]
                        have hyf : (y != 0) = true := by simpa using hy
                        have dk := cell_next k1
                        clear k0
                        go_upto_region 53 with (fail)
                        refine wp_region_quiet_below (by kernel_rfl) (by kernel_rfl) ?_; (repeat (go_big_quiet_step ((go_at_call 13; (with_reducible refine Calls.regrown_of (hHR.out _ (Bq _ _))))))); refine wpQuiet_nil ?_; rintro _ ⟨pq, rfl⟩
                        go_wp2
                        go_roundw
                        case rel => exact ⟨z + 1, by omega, by go_num, bnext hbw (Bq _ _)⟩
                        case measure => simp [intOf]; omega
                    · have HF : Hid (OneI w wr p d bb N (m + 1)) := Lib.hid ⟨H, R, hs, Q, D, HA.out.below (bnext HB11.out hbw), HI.out, HDF.out, HO.out.below (bnext HB11.out hbw), HN.out, bnext HBX.out (bnext HB11.out hbw)⟩
                      go_wp2
                      go_roundw
                      case rel => exact ⟨m + 1, by omega, by go_num, HF.out⟩
                      case measure => simp [intOf]; omega
      · go_wp2_with fail; (with_reducible refine (alawake _).mono ?_); rintro e w4 ⟨rfl, hb4⟩
        go_wp2
        go_ret
        exact ⟨rfl, bnext hbr hb4⟩
end Go.Proofs.Ytcgjkgcafkcgoaa
