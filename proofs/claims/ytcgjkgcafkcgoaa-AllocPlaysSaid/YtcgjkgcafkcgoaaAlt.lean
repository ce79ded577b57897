/- AllocTurns: its walk. -/
import Derived.Test.YtcgjkgcafkcgoaaAls
namespace Go.Proofs.Ytcgjkgcafkcgoaa
open Go.RowKit
set_option linter.unusedVariables false
set_option linter.unusedSimpArgs false

theorem zrst_free {D : Dv} {m : Nat} (hd : D.down = false) (hl : D.left = -1) (hm : m < D.n) : (zrst D m).2 = 0 ∧ (zrst D m).1.down = false ∧ (zrst D m).1.left = -1 ∧ (zrst D m).1.n = D.n ∧ (zrst D m).1.done = D.done + 1 := by
  unfold zrst
  rw [if_neg (by rw [zfnd_in hd hm]; simp)]
  unfold zthen
  rw [zcmd_free (by rw [hl]; decide)]
  exact ⟨rfl, hd, hl, rfl, rfl⟩
/-- the first n are taken -/
def rlt (N n : Nat) : List Int := (List.range N).map fun (i : Nat) => if i < n then 1 + (i : Int) % 5 else 0
theorem rlt_len (N n : Nat) : (rlt N n).length = N := by simp [rlt]
theorem rlt_at (N n i : Nat) (h : i < (rlt N n).length) : (rlt N n)[i] = if i < n then 1 + (i : Int) % 5 else 0 := by simp [rlt]
theorem rlt_zero (N : Nat) : rlt N 0 = List.replicate N 0 := List.ext_getElem (by simp [rlt]) fun i h1 h2 => by simp [rlt]
theorem rlt_set (N n : Nat) (h : n < N) : (rlt N n).set n (1 + (n : Int) % 5) = rlt N (n + 1) := by
  refine List.ext_getElem (by simp [rlt]) fun i h1 h2 => ?_
  rw [List.getElem_set]
  by_cases e : n = i
  · subst e; rw [if_pos rfl, rlt_at, if_pos (by omega)]
  · rw [if_neg e, rlt_at, rlt_at]
    by_cases h3 : i < n
    · rw [if_pos h3, if_pos (by omega)]
    · rw [if_neg h3, if_neg (by omega)]
theorem rlt_nz (N : Nat) : ∀ i (hi : i < (rlt N N).length), (rlt N N)[i] ≠ 0 := fun i hi => by
  rw [rlt_at]
  rw [rlt_len] at hi
  rw [if_pos hi]
  omega
structure TInv (N : Nat) (R Q : List Int) : Prop where
  len : R.length = N
  nz : ∀ i (hi : i < R.length), R[i] ≠ 0
  q : ∀ z ∈ Q, ∃ n : Nat, z = n ∧ n < N
theorem TInv.put {N : Nat} {R Q : List Int} (h : TInv N R Q) (n : Nat) (x : Int) (hx : x ≠ 0) : TInv N (R.set n x) Q := by
  refine ⟨by rw [List.length_set]; exact h.len, fun i hi => ?_, h.q⟩
  rw [List.getElem_set]
  split
  · exact hx
  · exact h.nz i (by simpa using hi)
theorem roleAt_used {R : List Int} {z : Int} (h : 1 ≤ roleAt R z ∧ roleAt R z ≤ 5) : ∃ n : Nat, ∃ hn : n < R.length, z = n ∧ 1 ≤ R[n] ∧ R[n] ≤ 5 := by
  unfold roleAt at h
  by_cases hz : 0 ≤ z ∧ z < R.length
  · rw [if_pos hz] at h
    have hn : z.toNat < R.length := by omega
    refine ⟨z.toNat, hn, by omega, ?_⟩
    rw [List.getD, List.getElem?_eq_getElem hn] at h
    exact h
  · rw [if_neg hz] at h; omega
set_option maxRecDepth 100000 in
set_option maxHeartbeats 8000000 in
theorem turns_walk {w : World} {a : Option Addr} {c : Nat} {l : List Int} (h : KZ w a l) (hl : l.length ≤ maxLen) (zs : Int) :
    Calls Try.prog 4 #[.int .i64 zs, .slice a l.length c] w fun e w' => e = .returned (.bool true) ∧ Below w.heap.size w w' := by
  unfold maxLen at hl
  have HK := Lib.hid h
  clear h
  by_cases hzs : zs < 1 ∨ 64 < zs
  · have Hn := Lib.hid (alnew_bad zs w hzs)
    have Hd := Lib.hid (aldev_nil zs w hzs)
    rcases hzs with h1 | h1
    all_goals
      go_enter Try.func4, Try.ntmps4
      go_wp2_with fail; (with_reducible refine (Hn.out).mono ?_); rintro e w1 ⟨rfl, rfl⟩
      go_wp2_with fail; (with_reducible refine (Hd.out).mono ?_); rintro e w2 ⟨rfl, hb2⟩
      go_wp2_with fail; (with_reducible refine (alawake _).mono ?_); rintro e w3 ⟨rfl, hb3⟩
      go_wp2
      go_ret
      exact ⟨rfl, bnext hb2 hb3⟩
  · obtain ⟨N, rfl⟩ := Int.eq_ofNat_of_zero_le (show 0 ≤ zs by omega)
    have hN1 : 1 ≤ N := by omega
    have hN2 : N ≤ 64 := by omega
    clear hzs
    have Hn := Lib.hid (alnew N w hN1 hN2)
    go_enter Try.func4, Try.ntmps4
    go_wp2_with fail; (with_reducible refine (Hn.out).mono ?_); rintro e w1 ⟨p, g, rfl, hT1, hb1⟩
    have HT1 := Lib.hid hT1
    have HB1 := Lib.hid hb1
    clear hT1 hb1 Hn
    go_wp2_with fail; (with_reducible refine (aldev N _ hN1 hN2).mono ?_); rintro e w2 ⟨d, G, rfl, hD2, hb2⟩
    have hat := AT.new HT1.out hb2 hD2
    have HB2 := Lib.hid (bnext HB1.out hb2)
    obtain ⟨H0, hA0⟩ := hat
    have HA0 := Lib.hid hA0
    clear HT1 HB1 hb2 hD2 hA0
    by_cases hlc : l.length ≤ 100
    case neg =>
      go_wp2_with fail; (with_reducible refine (alawake _).mono ?_); rintro e w3 ⟨rfl, hb3⟩
      go_wp2
      go_ret
      exact ⟨rfl, bnext HB2.out hb3⟩
    go_wp2
    go_loopw [50] (fun i wr => ∃ (n : Nat) (H : Nat → Prop), n ≤ N ∧ i = .int .i64 n ∧ AT wr w.heap.size p d H (rlt N n) [] (dv0 N 16 N) ∧ Below w.heap.size w wr) (fun i _ => N - (intOf i).toNat)
    case atStart => exact ⟨0, H0, Nat.zero_le _, rfl, by rw [rlt_zero]; exact HA0.out, HB2.out⟩
    case round =>
      clear HA0 HB2
      obtain ⟨n, H, hn, rfl, hA, hbr⟩ := hrel
      have HA := Lib.hid hA
      have HBR := Lib.hid hbr
      clear hA hbr
      by_cases hlt : n < N
      · have htk := HA.out.take (1 + (n : Int) % 5) (by omega) n (by rw [rlt_len]; exact hlt) (by rw [rlt_at, if_neg (by omega)]) (fun i hi hin => by rw [rlt_at, if_pos hin]; omega)
        rw [rlt_set N n hlt] at htk
        have Htk := Lib.hid htk
        clear htk
        go_wp2_with fail; (with_reducible refine (Htk.out).mono ?_); rintro e w3 ⟨rfl, ho3⟩
        have hb3 := ho3.below HA.out.ge HA.out.room
        obtain ⟨⟨H3, hA3, _⟩, _⟩ := ho3
        have HA3 := Lib.hid hA3
        have HB3 := Lib.hid (HBR.out.trans hb3)
        clear hA3 hb3 Htk
        go_wp2
        go_roundw
        case rel => exact ⟨n + 1, H3, by omega, by go_num, HA3.out, HB3.out⟩
        case measure => simp [intOf]; omega
      · obtain rfl : n = N := by omega
        have HI0 : Hid (TInv n (rlt n n) []) := Lib.hid ⟨rlt_len n n, rlt_nz n, fun z hz => by simp at hz⟩
        obtain ⟨i0, hi, hz0, hz1, hz2⟩ := info_parts infoInt
        have Hi := Lib.hid hi
        have Hz0 := Lib.hid hz0
        have Hz3 := Lib.hid hz1
        have Hzb := Lib.hid hz2
        clear hi hz0 hz1 hz2 hn hlt
        go_wp2
        generalize wr = wR at *
        go_loopw [10, 71] (fun v i wr => ∃ (m : Nat) (H : Nat → Prop) (R Q : List Int), m ≤ l.length ∧ i = .int .i64 m ∧ wr.ownsRow w.heap.size 3 1 v Q.length (ivs Q) ∧ AT wr w.heap.size p d H R Q (dv0 n 16 n) ∧ TInv n R Q ∧ Q.length ≤ m ∧ (∀ k, v.ownBlock = some k → ¬ H k) ∧ Below w.heap.size w wr) (fun _ i _ => l.length - (intOf i).toNat)
        case atStart => exact ⟨0, H, _, [], Nat.zero_le _, rfl, World.ownsRow_nil _ _ _ _, HA.out, HI0.out, Nat.le_refl _, fun k hk => by simp [Value.ownBlock] at hk, HBR.out⟩
        case round =>
          clear HA HBR HI0
          obtain ⟨m, H, R, Q, hm, rfl, hrow, hA, hI, hQm, hap, hbr⟩ := hrel
          obtain ⟨av, cv, rfl, hc1, hc2, _⟩ := row_shape hrow
          have HA := Lib.hid hA
          have HBR := Lib.hid hbr
          have HR := Lib.hid hrow
          have HI := Lib.hid hI
          have HAP := Lib.hid hap
          have hbz : w.heap.size ≤ wr.heap.size := hbr.size
          clear hA hrow hI hap
          by_cases hlt : m < l.length
          · obtain ⟨kb, ko, rfl, hkc⟩ := (HK.out.below hbr) (by omega)
            have f0 := hkc m hlt
            clear hkc hbr
            generalize l[m] = z at *
            by_cases hu : 1 ≤ roleAt R z ∧ roleAt R z ≤ 5
            · obtain ⟨q, hq, rfl, hu1, hu2⟩ := roleAt_used hu
              have Hre := Lib.hid (HA.out.release q hq ⟨hu1, hu2⟩ (by omega))
              have HI2 : Hid (TInv n (R.set q 6) (Q ++ [(q : Int)])) := Lib.hid (by
                have h1 := HI.out.put q 6 (by decide)
                refine ⟨h1.len, h1.nz, fun z hz => ?_⟩
                rcases List.mem_append.1 hz with h2 | h2
                · exact HI.out.q z h2
                · rw [List.mem_singleton] at h2
                  exact ⟨q, h2, by rw [← HI.out.len]; exact hq⟩)
              clear hu hu1 hu2 hq
              go_wp2_with fail; (with_reducible refine (Hre.out).mono ?_); rintro e w3 ⟨rfl, ho3⟩
              have hb3 := ho3.below HA.out.ge HA.out.room
              obtain ⟨⟨H3, hA3, hf3⟩, hc3⟩ := ho3
              have hrow3 : w3.ownsRow w.heap.size 3 1 (.slice av Q.length cv) Q.length (ivs Q) := row_same HR.out fun k hk => hc3.block k (World.ownsRow.lt HR.out k hk).2 (HAP.out k hk)
              have hap3 : ∀ k, (Value.slice av Q.length cv).ownBlock = some k → ¬ H3 k := fun k hk hh => by
                rcases hf3 k hh with h | h
                · exact HAP.out k hk h
                · have := (World.ownsRow.lt HR.out k hk).2; omega
              have HR3 := Lib.hid hrow3
              have HA3 := Lib.hid hA3
              have HB3 := Lib.hid (HBR.out.trans hb3)
              have hbz3 := (HBR.out.trans hb3).size
              have HY : Hid (∀ v2 w4, w4.ownsRow w.heap.size 3 1 v2 (Q.length + 1) (ivs Q ++ [.int .i64 q]) → App w3 w4 (.slice av Q.length cv) v2 → w4.ownsRow w.heap.size 3 1 v2 (Q ++ [(q : Int)]).length (ivs (Q ++ [(q : Int)])) ∧ AT w4 w.heap.size p d H3 (R.set q 6) (Q ++ [(q : Int)]) (dv0 n 16 n) ∧ (∀ k, v2.ownBlock = some k → ¬ H3 k) ∧ Below w.heap.size w w4) := Lib.hid fun v2 w4 ho4 ha4 => by
                have hl2 : (Q ++ [(q : Int)]).length = Q.length + 1 := by simp
                refine ⟨by rw [ivs_append, hl2]; exact ho4, HA3.out.chg (Chg.of_app ha4) fun k hk e => hap3 k e hk, fun k hk hh => ?_, HB3.out.trans ((Chg.of_app ha4).below (fun k hk => (World.ownsRow.lt HR3.out k hk).1) hbz3)⟩
                rcases ha4.lies with e | ⟨x, e, hx⟩
                · exact hap3 k (by rw [← e]; exact hk) hh
                · rw [e] at hk; cases hk; have := (HA3.out.ge _ hh).2; omega
              clear hrow3 hap3 hA3 hf3 hc3 hb3 Hre
              go_wp2_with (at_builtin; go_loud (refine wpList_appN rfl (.tmp 79) (.tmp 81) 22 3 i0 (.int .i64 0) 1 8 Try.underlying22 Hi.out Hz0.out Hz3.out Hzb.out rfl (by decide) rfl w.heap.size _ Q.length (ivs Q) rfl HR3.out #[.int .i64 q] 1 1 (by first | rfl | (simp; done) | (simp; rfl)) rfl (by intro u hu; simp at hu; subst hu; rfl) (by unfold maxLen; omega) (by omega) (by first | exact hbz3 | (simp; omega)) ?_); intro v2 w4 ho4 hold4 ha4; have HX := Lib.hid (HY.out _ _ ho4 ha4); clear ho4 hold4 ha4)
              go_roundw
              case rel => exact ⟨m + 1, H3, R.set q 6, Q ++ [(q : Int)], by omega, by go_num, HX.out.1, HX.out.2.1, HI2.out, by simp; omega, HX.out.2.2.1, HX.out.2.2.2⟩
              case measure => simp [intOf]; omega
            · have hre := HA.out.release_no z hu
              obtain ⟨er, her, hne⟩ : ∃ er : Int, (if roleAt R z = -1 then (70 : Int) else 80) = er ∧ (er == 0) = false := ⟨_, rfl, by split <;> rfl⟩
              rw [her] at hre
              have Hre := Lib.hid hre
              clear hre her hu
              go_wp2_with fail; (with_reducible refine (Hre.out).mono ?_); rintro e wr ⟨rfl, rfl⟩
              go_wp2
              go_roundw
              case rel => exact ⟨m + 1, H, R, Q, by omega, by go_num, HR.out, HA.out, HI.out, by omega, HAP.out, HBR.out⟩
              case measure => simp [intOf]; omega
          · have hQl : Q.length ≤ 100 := by omega
            have Hqu := Lib.hid (HA.out.queue (by omega))
            clear hbr hQm
            have hk2 : KZ wr av Q := fun hp => by
              obtain ⟨_, _, _, _, _, h3⟩ := row_shape HR.out
              rcases HR.out.2 with ⟨e1, _⟩ | ⟨x, cap, cur, e1, _⟩
              · simp only [Value.slice.injEq] at e1; have := e1.2.1; omega
              · simp only [Value.slice.injEq] at e1
                obtain ⟨rfl, _, rfl⟩ := e1
                refine ⟨x, 0, rfl, fun i hi => ?_⟩
                rw [Nat.zero_add, World.ownsRow.cellAt HR.out i (by omega)]
                simp [ivs, hi]
            have HK2 := Lib.hid hk2
            clear hk2
            go_wp2_with fail; (with_reducible refine (Hqu.out).mono ?_); rintro e w3 ⟨u, rfl, hru, hb3⟩
            have hku : ∃ ua uc, u = .slice ua Q.length uc ∧ KZ w3 ua Q := by
              obtain ⟨ua, uc, rfl, _, _, _⟩ := row_shape hru
              refine ⟨ua, uc, rfl, fun hp => ?_⟩
              rcases hru.2 with ⟨e1, _⟩ | ⟨x, cap, cur, e1, _⟩
              · simp only [Value.slice.injEq] at e1; have := e1.2.1; omega
              · simp only [Value.slice.injEq] at e1
                obtain ⟨rfl, _, rfl⟩ := e1
                refine ⟨x, 0, rfl, fun i hi => ?_⟩
                rw [Nat.zero_add, World.ownsRow.cellAt hru i (by omega)]
                simp [ivs, hi]
            obtain ⟨ua, uc, rfl, hku⟩ := hku
            have Hin := Lib.hid (al_ints (ca := uc) (cb := cv) hku (HK2.out.below hb3) rfl (by omega))
            have HA3 := Lib.hid (HA.out.below hb3)
            have HB3 := Lib.hid (bnext HBR.out hb3)
            have HK3 := Lib.hid (HK2.out.below hb3)
            clear hru hku Hqu
            go_wp2_with fail; (with_reducible refine (Hin.out).mono ?_); rintro e w4 ⟨rfl, hb4⟩
            have HA4 := Lib.hid (HA3.out.below hb4)
            have HB4 := Lib.hid (bnext HB3.out hb4)
            have HR4 : Hid (w4.ownsRow w.heap.size 3 1 (.slice av Q.length cv) Q.length (ivs Q)) := Lib.hid (row_past (row_past HR.out hb3 (Nat.le_refl _)) hb4 (Nat.le_refl _))
            clear hb3 hb4 Hin HA HBR HR HK2 HK3 HA3 HB3 hbz
            go_wp2
            generalize wr = wS at *
            go_loopw [91] (fun i wr => ∃ (k : Nat) (H : Nat → Prop) (R : List Int) (D : Dv), k ≤ Q.length ∧ i = .int .i64 k ∧ wr.ownsRow w.heap.size 3 1 (.slice av Q.length cv) Q.length (ivs Q) ∧ AT wr w.heap.size p d H R (Q.drop k) D ∧ TInv n R Q ∧ (∀ x, (Value.slice av Q.length cv).ownBlock = some x → ¬ H x) ∧ D.down = false ∧ D.left = -1 ∧ D.n = n ∧ D.done ≤ k ∧ Below w.heap.size w wr) (fun i _ => Q.length - (intOf i).toNat)
            case atStart => exact ⟨0, H, R, dv0 n 16 n, Nat.zero_le _, rfl, HR4.out, HA4.out, HI.out, HAP.out, rfl, rfl, rfl, Nat.le_refl _, HB4.out⟩
            case round =>
              clear HA4 HB4 HR4 HI HAP
              obtain ⟨k, H, R, D, hk, rfl, hrow, hA, hI, hap, hd1, hd2, hd3, hd4, hbr⟩ := hrel
              have HA := Lib.hid hA
              have HBR := Lib.hid hbr
              have HR := Lib.hid hrow
              have HI := Lib.hid hI
              have HAP := Lib.hid hap
              clear hA hrow hI hap hbr
              by_cases hlt : k < Q.length
              · obtain ⟨q, hqe, hqn⟩ := HI.out.q _ (List.getElem_mem hlt)
                have hf0 : ∃ x, av = some ⟨x, 0, none⟩ ∧ wr.cell? ⟨x, k, none⟩ = some (.int .i64 q) := by
                  rcases HR.out.2 with ⟨e1, _⟩ | ⟨x, cap, cur, e1, _⟩
                  · simp only [Value.slice.injEq] at e1; have := e1.2.1; omega
                  · simp only [Value.slice.injEq] at e1
                    obtain ⟨rfl, _, rfl⟩ := e1
                    refine ⟨x, rfl, ?_⟩
                    rw [World.ownsRow.cellAt HR.out k (by omega)]
                    simp [ivs, hlt, hqe]
                obtain ⟨x, rfl, f0⟩ := hf0
                have hqR : q < R.length := by rw [HI.out.len]; exact hqn
                have hdrop : Q.drop k = (q : Int) :: Q.drop (k + 1) := by rw [List.drop_eq_getElem_cons hlt, hqe]
                have hA2 := HA.out
                rw [hdrop] at hA2
                obtain ⟨z1, z2, z3, z4, z5⟩ := zrst_free (m := q) hd1 hd2 (by omega)
                have hrs := hA2.reset hqR (by omega)
                rw [z1] at hrs
                have hrs2 : Calls Try.prog 18 #[.pointer (some ⟨p, 0, none⟩), .pointer (some ⟨d, 0, none⟩)] wr fun e w' => e = .returned (.tuple #[.int .i64 q, .int .i64 0]) ∧ AOut wr w.heap.size p d H (R.set q 0) (Q.drop (k + 1)) (zrst D q).1 w' := hrs.mono fun e w' h => by
                  rcases h with ⟨h, _⟩ | ⟨_, h1, h2⟩
                  · exact absurd rfl h
                  · exact ⟨h1, h2⟩
                have Hrs := Lib.hid hrs2
                have HZ := Lib.hid (And.intro z2 (And.intro z3 (And.intro (z4.trans hd3) (show (zrst D q).1.done ≤ k + 1 by omega))))
                clear hrs hrs2 hA2 hdrop z1 z2 z3 z4 z5 hd1 hd2 hd3 hd4 hqe
                generalize (zrst D q).1 = D2 at *
                have hroom := HA.out.room
                go_wp2_with fail; (with_reducible refine (Hrs.out).mono ?_); rintro e w3 ⟨rfl, ho3⟩
                have hb3 := ho3.below HA.out.ge HA.out.room
                obtain ⟨⟨H3, hA3, hf3⟩, hc3⟩ := ho3
                have hl3 : q < (R.set q 0).length := by simpa using hqR
                have hro := hA3.role q
                rw [roleAt_in hl3, List.getElem_set_self] at hro
                have htk := hA3.take 3 (by decide) q hl3 (by simp) (fun i hi hiq => by
                  rw [List.getElem_set_ne (by omega)]
                  exact HI.out.nz i (by simpa using hi))
                rw [List.set_set] at htk
                have Hro := Lib.hid hro
                have Htk := Lib.hid htk
                have HA3 := Lib.hid hA3
                have HF3 := Lib.hid hf3
                have HC3 := Lib.hid hc3
                have HB3 := Lib.hid (HBR.out.trans hb3)
                clear hro htk hA3 hf3 hc3 hb3 Hrs
                go_wp2_with fail; (with_reducible refine (Hro.out).mono ?_); rintro e w3 ⟨rfl, rfl⟩
                go_wp2_with fail; (with_reducible refine (Htk.out).mono ?_); rintro e w4 ⟨rfl, ho4⟩
                have hb4 := ho4.below HA3.out.ge HA3.out.room
                obtain ⟨⟨H4, hA4, hf4⟩, hc4⟩ := ho4
                have hrow3 : w3.ownsRow w.heap.size 3 1 (.slice (some ⟨x, 0, none⟩) Q.length cv) Q.length (ivs Q) := row_same HR.out fun y hy => HC3.out.block y (World.ownsRow.lt HR.out y hy).2 (HAP.out y hy)
                have hap3 : ∀ y, (Value.slice (some ⟨x, 0, none⟩) Q.length cv).ownBlock = some y → ¬ H3 y := fun y hy hh => by
                  rcases HF3.out y hh with h | h
                  · exact HAP.out y hy h
                  · have := (World.ownsRow.lt HR.out y hy).2; omega
                have HX : Hid (w4.ownsRow w.heap.size 3 1 (.slice (some ⟨x, 0, none⟩) Q.length cv) Q.length (ivs Q) ∧ AT w4 w.heap.size p d H4 (R.set q 3) (Q.drop (k + 1)) D2 ∧ TInv n (R.set q 3) Q ∧ (∀ y, (Value.slice (some ⟨x, 0, none⟩) Q.length cv).ownBlock = some y → ¬ H4 y) ∧ Below w.heap.size w w4) := Lib.hid ⟨row_same hrow3 fun y hy => hc4.block y (World.ownsRow.lt hrow3 y hy).2 (hap3 y hy), hA4, HI.out.put q 3 (by decide), fun y hy hh => by
                  rcases hf4 y hh with h | h
                  · exact hap3 y hy h
                  · have := (World.ownsRow.lt hrow3 y hy).2; omega, HB3.out.trans hb4⟩
                clear hb4 hA4 hf4 hc4 hrow3 hap3 Htk Hro
                go_wp2
                go_roundw
                case rel => exact ⟨k + 1, H4, R.set q 3, D2, by omega, by go_num, HX.out.1, HX.out.2.1, HX.out.2.2.1, HX.out.2.2.2.1, HZ.out.1, HZ.out.2.1, HZ.out.2.2.1, HZ.out.2.2.2, HX.out.2.2.2.2⟩
                case measure => simp [intOf]; omega
              · have hA2 := HA.out
                rw [List.drop_of_length_le (by omega)] at hA2
                have Hrs := Lib.hid hA2.reset_nil
                have hcn := hA2.count 0
                rw [count_none HI.out.nz] at hcn
                have Hcn : Hid (Calls Try.prog 12 #[.pointer (some ⟨p, 0, none⟩), .int .i64 0] wr fun e w' => e = .returned (.int .i64 0) ∧ Below wr.heap.size wr w') := Lib.hid hcn
                clear hA2 hcn
                go_wp2_with fail; (with_reducible refine (Hrs.out).mono ?_); rintro e wr ⟨rfl, rfl⟩
                go_wp2_with fail; (with_reducible refine (Hcn.out).mono ?_); rintro e w3 ⟨rfl, hb3⟩
                go_wp2_with fail; (with_reducible refine (alawake _).mono ?_); rintro e w4 ⟨rfl, hb4⟩
                go_wp2
                go_ret
                exact ⟨rfl, bnext (bnext HBR.out hb3) hb4⟩
end Go.Proofs.Ytcgjkgcafkcgoaa
