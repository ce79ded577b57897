/- Chapter 11: the document's Get and Users. -/
import Derived.Test.YtcbkjhbneigkaaaYMr
namespace Go.Proofs.Ytcbkjhbneigkaaa
open Go.RowKit
set_option linter.unusedVariables false
set_option linter.unusedSimpArgs false

/-- the place that the document tells -/
def mgetI (M : List ME) (u : ByteArray) (at' : Int) : Int := if mget u at' M < M.length then (mget u at' M : Nat) else -1
def bestN (m k : Nat) : Int := if m < k then (m : Nat) else -1
theorem bestN_no {m k : Nat} (h : k ≤ m) : bestN m k = -1 := if_neg (by omega)
theorem bestN_yes {m k : Nat} (h : m < k) : bestN m k = (m : Nat) := if_pos h
set_option maxRecDepth 100000 in
set_option maxHeartbeats 4000000 in
theorem refget {w : World} {B : Nat} {ao : Option Addr} {c : Nat} {M : List ME} {last : Int} (h : MR w B (.slice ao M.length c) M) (hi : MInv M last) (hl : M.length ≤ 99999) (u : ByteArray) (at' : Int) :
    Calls Try.prog 20 #[.slice ao M.length c, .string u, .int .i64 at'] w fun e w' => e = .returned (.int .i64 (mgetI M u at')) ∧ Below w.heap.size w w' := by
  have H := Lib.hid h
  have HBf : Hid (∀ j (hj : j < M.length), j < mget u at' M → mhit u at' M[j] = false) := Lib.hid (mget_before u at' M)
  have HHt : Hid (∀ (hc : mget u at' M < M.length), mhit u at' M[mget u at' M] = true) := Lib.hid (mget_hit u at' M)
  have HCm : Hid (∀ i j (hi : i < M.length) (hj : j < M.length), i < j → ∀ W, Calls Try.prog 42 #[.agg #[.string M[j].u, .int .i64 M[j].s, .int .i64 M[j].k], .agg #[.string M[i].u, .int .i64 M[i].s, .int .i64 M[i].k]] W fun r w' => r = .returned (.int .i64 1) ∧ Below W.heap.size W w') := Lib.hid fun i j h1 h2 hij W =>
    rcmp (hi.ok _ (List.getElem_mem h2)).user (hi.ok _ (List.getElem_mem h1)).user 1 (mcmp_pos (mrise_at hi.rise i j h1 h2 hij)) W
  have hmle := mget_le u at' M
  have HI : Hid (mgetI M u at' = bestN (mget u at' M) M.length) := Lib.hid rfl
  generalize mgetI M u at' = res at *
  generalize mget u at' M = m at *
  clear h hi
  go_enter Try.func20, Try.ntmps20
  go_wp2
  go_loopw [7, 8] (fun b i wr => ∃ k : Nat, k ≤ M.length ∧ i = .int .i64 k ∧ b = .int .i64 (bestN m k) ∧ Below w.heap.size w wr) (fun _ i _ => M.length - (intOf i).toNat)
  case atStart => exact ⟨0, Nat.zero_le _, rfl, by rw [bestN_no (Nat.zero_le _)], Below.refl _ _⟩
  case round =>
    obtain ⟨k, hk, rfl, rfl, hbr⟩ := hrel
    have HBr := Lib.hid hbr
    by_cases hlt : k < M.length
    · obtain ⟨g, hg, d0, d1, d2, d3⟩ := H.out.cells hbr k hlt
      have HM : Hid (∀ hm : m < M.length, wr.cell? ⟨g, m * 4, none⟩ = some (.string M[m].u) ∧ wr.cell? ⟨g, m * 4 + 1, none⟩ = some (.int .i64 M[m].s) ∧ wr.cell? ⟨g, m * 4 + 2, none⟩ = some (.int .i64 M[m].k)) := Lib.hid fun hm => by
        obtain ⟨g', hg2, q0, q1, q2, _⟩ := H.out.cells hbr m hm
        rw [hg] at hg2
        cases hg2
        exact ⟨q0, q1, q2⟩
      subst hg
      have hcm := fun hm hmk => HCm.out m k hm hlt hmk
      have hbf := HBf.out k hlt
      have hht := HHt.out
      have t0 := cell_next d0
      have t1 := cell_next d1
      have t2 := cell_next d2
      have Bg := bnext_grow (Below.refl wr.heap.size wr)
      clear hbr d3
      by_cases hu : M[k].u = u
      · have hq := str_eq hu
        by_cases hs : M[k].s ≤ at'
        · have hh : mhit u at' M[k] = true := mhit_iff.2 ⟨hu, hs⟩
          have hd := decide_eq_true hs
          have hmk : m ≤ k := by
            rcases Nat.lt_or_ge k m with h | h
            · rw [hbf h] at hh; cases hh
            · exact h
          rcases Nat.lt_or_ge m k with hmk2 | hmk2
          · rw [bestN_yes hmk2]
            have Hb1 : Hid (bestN m (k + 1) = (m : Nat)) := Lib.hid (bestN_yes (by omega))
            obtain ⟨q0, q1, q2⟩ := HM.out (by omega)
            have HC1 := Lib.hid (hcm (by omega) hmk2)
            have hml : m < M.length := by omega
            have hn1 : decide ((m : Int) < 0) = false := decide_eq_false (by omega)
            have r0 := cell_next q0
            have r1 := cell_next q1
            have r2 := cell_next q2
            generalize M[m] = E2 at *
            generalize M[k] = E at *
            clear hcm hbf hht hh hu hs
            go_upto_region 5 with (fail)
            refine wp_region_quiet_below (by kernel_rfl) (by kernel_rfl) ?_; (repeat (go_big_quiet_step ((go_at_call 42; (with_reducible refine Calls.regrown_of (HC1.out _)))))); refine wpQuiet_nil ?_; rintro _ ⟨pq, rfl⟩
            go_wp2
            go_roundw
            case rel => exact ⟨k + 1, by omega, by go_num, by rw [Hb1.out], HBr.out.trans ((Bg _ _).mono HBr.out.size)⟩
            case measure => simp [intOf]; omega
          · have e : m = k := by omega
            rw [bestN_no (by omega)]
            have Hb1 : Hid (bestN m (k + 1) = (k : Nat)) := Lib.hid (by rw [bestN_yes (by omega), e])
            generalize M[k] = E at *
            clear hcm hbf hht hh hu hs
            go_upto_region 5 with (fail)
            refine wp_region_quiet_below (by kernel_rfl) (by kernel_rfl) ?_; (repeat (go_big_quiet_step ((fail)))); refine wpQuiet_nil ?_; rintro _ ⟨pq, rfl⟩
            go_wp2
            go_roundw
            case rel => exact ⟨k + 1, by omega, by go_num, by rw [Hb1.out], HBr.out.trans ((Bg _ _).mono HBr.out.size)⟩
            case measure => simp [intOf]; omega
        · have hd := decide_eq_false hs
          have hne : m ≠ k := fun e => by
            subst e
            have := (mhit_iff.1 (hht hlt)).2
            exact hs this
          have Hb1 : Hid (bestN m (k + 1) = bestN m k) := Lib.hid (by unfold bestN; split <;> split <;> omega)
          generalize M[k] = E at *
          generalize bestN m k = b at *
          clear hcm hbf hht hu hs
          go_upto_region 5 with (fail)
          refine wp_region_quiet_below (by kernel_rfl) (by kernel_rfl) ?_; (repeat (go_big_quiet_step ((fail)))); refine wpQuiet_nil ?_; rintro _ ⟨pq, rfl⟩
          go_wp2
          go_roundw
          case rel => exact ⟨k + 1, by omega, by go_num, by rw [Hb1.out], HBr.out.trans ((Bg _ _).mono HBr.out.size)⟩
          case measure => simp [intOf]; omega
      · have hq := str_ne hu
        have hne : m ≠ k := fun e => by
          subst e
          exact hu (mhit_iff.1 (hht hlt)).1
        have Hb1 : Hid (bestN m (k + 1) = bestN m k) := Lib.hid (by unfold bestN; split <;> split <;> omega)
        generalize M[k] = E at *
        generalize bestN m k = b at *
        clear hcm hbf hht hu
        go_upto_region 5 with (fail)
        refine wp_region_quiet_below (by kernel_rfl) (by kernel_rfl) ?_; (repeat (go_big_quiet_step ((fail)))); refine wpQuiet_nil ?_; rintro _ ⟨pq, rfl⟩
        go_wp2
        go_roundw
        case rel => exact ⟨k + 1, by omega, by go_num, by rw [Hb1.out], HBr.out.trans ((Bg _ _).mono HBr.out.size)⟩
        case measure => simp [intOf]; omega
    · obtain rfl : k = M.length := by omega
      have HI2 : Hid (bestN m M.length = res) := Lib.hid HI.out.symm
      rw [HI2.out]
      go_wp2
      go_ret
      exact ⟨rfl, HBr.out⟩
set_option maxRecDepth 100000 in
set_option maxHeartbeats 4000000 in
theorem refusers {w : World} {B : Nat} {ao : Option Addr} {c : Nat} {M : List ME} {last : Int} (h : MR w B (.slice ao M.length c) M) (hi : MInv M last) (hl : M.length ≤ 99999) (at' : Int) :
    Calls Try.prog 22 #[.slice ao M.length c, .int .i64 at'] w (UsersOut w (musers at' M)) := by
  have H := Lib.hid h
  have HG : Hid (∀ (k : Nat) (hk : k < M.length) W, Below w.heap.size w W → Calls Try.prog 20 #[.slice ao M.length c, .string M[k].u, .int .i64 at'] W fun e w' => e = .returned (.int .i64 (mgetI M M[k].u at')) ∧ Below W.heap.size W w') := Lib.hid fun k hk W hb => refget (h.below hb) hi hl _ _
  obtain ⟨i0, hi, hz0, hz1, hz2⟩ := info_parts mstr_info
  have Hi := Lib.hid hi
  have Hz0 := Lib.hid hz0
  have Hz3 := Lib.hid hz1
  have Hzb := Lib.hid hz2
  clear hi hz0 hz1 hz2 h
  go_enter Try.func22, Try.ntmps22
  go_wp2
  go_loopw [5, 6] (fun v i wr => ∃ k : Nat, k ≤ M.length ∧ i = .int .i64 k ∧ wr.ownsRow w.heap.size 9 1 v (musersN at' M k).length (svs (musersN at' M k)) ∧ Below w.heap.size w wr) (fun _ i _ => M.length - (intOf i).toNat)
  case atStart => exact ⟨0, Nat.zero_le _, rfl, World.ownsRow_nil _ _ _ _, Below.refl _ _⟩
  case round =>
    obtain ⟨k, hk, rfl, hown, hbr⟩ := hrel
    have Hown := Lib.hid hown
    have Hbr := Lib.hid hbr
    have hz := hbr.size
    clear hown
    by_cases hlt : k < M.length
    · obtain ⟨g, rfl, d0, d1, d2, d3⟩ := H.out.cells hbr k hlt
      have HC := Lib.hid (HG.out k hlt wr hbr)
      have hlu := musersN_le at' M k
      have htl := mtold_eq (at' := at') hlt
      have hun := uAt_in hlt
      have hms : musersN at' M (k + 1) = if mtold at' M k = true then musersN at' M k ++ [uAt M k] else musersN at' M k := rfl
      rw [hun, htl] at hms
      have hgi : mgetI M M[k].u at' = (k : Nat) ↔ mget M[k].u at' M = k := by
        unfold mgetI
        constructor
        · intro h; split at h <;> omega
        · intro h; rw [h, if_pos hlt]
      generalize mgetI M M[k].u at' = gi at *
      generalize mget M[k].u at' M = gm at *
      generalize M[k] = E at *
      have HMs := Lib.hid hms
      have HGi := Lib.hid hgi
      clear hms hgi htl hun hbr d1 d3
      go_wp2_with fail; (with_reducible refine (HC.out).mono ?_); rintro e w2 ⟨rfl, hb2⟩
      have d0 := cell_next d0 w2 hb2
      have d2 := cell_next d2 w2 hb2
      have HB2 := Lib.hid (Hbr.out.trans (hb2.mono Hbr.out.size))
      have Hown2 := Lib.hid (row_past Hown.out hb2 (Nat.le_refl _))
      have hz2 : w.heap.size ≤ w2.heap.size := HB2.out.size
      clear hb2
      by_cases hg : gm = k
      · have hg2 : (gi == (k : Int)) = true := by rw [beq_iff_eq]; exact HGi.out.2 hg
        by_cases hk1 : E.k = 1
        · have hk2 : (E.k == 1) = true := by rw [beq_iff_eq]; exact hk1
          have Hn : Hid (musersN at' M (k + 1) = musersN at' M k ++ [E.u]) := Lib.hid (by rw [HMs.out, decide_eq_true hg, decide_eq_true hk1]; rfl)
          clear hg hk1
          go_wp2_with (at_builtin; go_loud (refine wpList_appN rfl (.tmp 33) (.tmp 40) 22 9 i0 (.string ⟨#[]⟩) 1 16 Try.underlying22 Hi.out Hz0.out Hz3.out Hzb.out rfl (by decide) rfl w.heap.size u5 (musersN at' M k).length (svs (musersN at' M k)) rfl Hown2.out #[.string E.u] 1 1 (by first | rfl | (simp; done) | (simp; rfl)) rfl (by intro u hu; simp at hu; subst hu; rfl) (by unfold maxLen; omega) (by omega) (by first | exact hz2 | (simp; omega)) ?_); intro v2 w4 ho4 hold4 ha4)
          go_roundw
          case rel => exact ⟨k + 1, by omega, by go_num, by rw [Hn.out, svs_snoc, List.length_append]; exact ho4, HB2.out.trans ((Chg.of_app ha4).below (fun q hq => (World.ownsRow.lt Hown2.out q hq).1) hz2)⟩
          case measure => simp [intOf]; omega
        · have hk2 : (E.k == 1) = false := by rw [beq_eq_false_iff_ne]; exact hk1
          have Hn : Hid (musersN at' M (k + 1) = musersN at' M k) := Lib.hid (by rw [HMs.out, decide_eq_false hk1, Bool.and_false]; rfl)
          clear hg hk1
          go_wp2
          go_roundw
          case rel => exact ⟨k + 1, by omega, by go_num, by rw [Hn.out]; exact Hown2.out, HB2.out⟩
          case measure => simp [intOf]; omega
      · have hg2 : (gi == (k : Int)) = false := by rw [beq_eq_false_iff_ne]; exact fun e => hg (HGi.out.1 e)
        have Hn : Hid (musersN at' M (k + 1) = musersN at' M k) := Lib.hid (by rw [HMs.out, decide_eq_false hg, Bool.false_and]; rfl)
        clear hg
        go_wp2
        go_roundw
        case rel => exact ⟨k + 1, by omega, by go_num, by rw [Hn.out]; exact Hown2.out, HB2.out⟩
        case measure => simp [intOf]; omega
    · obtain rfl : k = M.length := by omega
      go_wp2
      go_ret
      exact ⟨_, rfl, Hown.out, Hbr.out⟩
end Go.Proofs.Ytcbkjhbneigkaaa
