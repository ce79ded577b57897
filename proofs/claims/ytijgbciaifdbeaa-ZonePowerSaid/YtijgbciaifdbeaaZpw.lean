/- ZonePower: the plain law, and its walk. -/
import Derived.Test.YtijgbciaifdbeaaZow
namespace Go.Proofs.Ytijgbciaifdbeaa
open Go.RowKit
set_option linter.unusedVariables false
set_option linter.unusedSimpArgs false

structure PInv (n : Int) (D : Dv) : Prop where
  on : 0 ≤ n → 0 ≤ D.left ∧ (D.done : Int) + D.left = n ∧ (D.down = true → D.left = 0)
  off : n < 0 → D.left = -1 ∧ D.down = false
structure PStep (n : Int) (D D' : Dv) (e : Int) : Prop where
  inv : PInv n D'
  dn : D'.down = (e == 74)
  was : D.down = true → e = 74
  done : D'.done ≤ D.done + 1
theorem PStep.same {n : Int} {D : Dv} (h : PInv n D) (e : Int) (he : (D.down = true ∧ e = 74) ∨ (D.down = false ∧ e ≠ 74)) : PStep n D D e := by
  rcases he with ⟨h1, rfl⟩ | ⟨h1, h2⟩
  · exact ⟨h, by rw [h1]; rfl, fun _ => rfl, Nat.le_succ _⟩
  · refine ⟨h, ?_, fun h3 => (by rw [h1] at h3; cases h3), Nat.le_succ _⟩
    rw [h1]
    exact (beq_eq_false_iff_ne.2 h2).symm
theorem PStep.fnd {n : Int} {D : Dv} (h : PInv n D) {z : Int} (hz : zfnd D z ≠ 0) : PStep n D D (zfnd D z) := by
  refine PStep.same h _ ?_
  unfold zfnd at hz ⊢
  cases hd : D.down with
  | true => exact .inl ⟨rfl, if_pos rfl⟩
  | false =>
    rw [hd] at hz
    simp only [Bool.false_eq_true, if_false] at hz ⊢
    split at hz
    · rename_i h1; rw [if_pos h1]; exact .inr ⟨trivial, by decide⟩
    · exact absurd rfl hz
theorem zfnd_zero {D : Dv} {z : Int} (h : ¬ zfnd D z ≠ 0) : D.down = false := by
  cases hd : D.down with
  | false => rfl
  | true => exact absurd (zfnd_down (z := z) hd) (fun e => h (by rw [e]; decide))
theorem PStep.cmd {n : Int} {D D1 : Dv} (h : PInv n D) (hd : D.down = false) (h1 : D1.left = D.left) (h2 : D1.done = D.done) (h3 : D1.down = D.down) : PStep n D (zcmd D1).1 (zcmd D1).2 := by
  by_cases hl : D1.left = 0
  · rw [zcmd_off hl]
    refine ⟨⟨fun hn => ?_, fun hn => ?_⟩, rfl, fun h4 => absurd (hd.symm.trans h4) (by decide), Nat.le_trans (Nat.le_of_eq h2) (Nat.le_succ _)⟩
    · obtain ⟨a, b, c⟩ := h.on hn
      exact ⟨show 0 ≤ D1.left by omega, show (D1.done : Int) + D1.left = n by rw [h1, h2]; exact b, fun _ => hl⟩
    · obtain ⟨a, b⟩ := h.off hn
      omega
  · by_cases hp : 0 < D1.left
    · rw [zcmd_arm hp]
      refine ⟨⟨fun hn => ?_, fun hn => ?_⟩, by simp only [h3, hd]; rfl, fun h4 => absurd (hd.symm.trans h4) (by decide), by simp only [h2]; exact Nat.le_refl _⟩
      · obtain ⟨a, b, c⟩ := h.on hn
        refine ⟨by simp only; omega, by simp only [h1, h2]; omega, fun h5 => ?_⟩
        simp only [h3, hd] at h5
        cases h5
      · obtain ⟨a, b⟩ := h.off hn
        omega
    · rw [zcmd_free (by omega)]
      refine ⟨⟨fun hn => ?_, fun hn => ?_⟩, by simp only [h3, hd]; rfl, fun h4 => absurd (hd.symm.trans h4) (by decide), by simp only [h2]; exact Nat.le_refl _⟩
      · obtain ⟨a, b, c⟩ := h.on hn
        omega
      · obtain ⟨a, b⟩ := h.off hn
        exact ⟨by simp only [h1]; exact a, by simp only [h3]; exact b⟩
theorem PStep.thn {n : Int} {D : Dv} (h : PInv n D) (hd : D.down = false) (f : Dv → Dv) (hf : ∀ D', (f D').left = D'.left ∧ (f D').done = D'.done ∧ (f D').down = D'.down) : PStep n D (zthen D f).1 (zthen D f).2 := by
  have h1 := PStep.cmd (D1 := D) h hd rfl rfl rfl
  unfold zthen
  split
  · rename_i h0
    obtain ⟨a, b, c⟩ := hf (zcmd D).1
    rw [h0] at h1
    exact ⟨⟨fun hn => by rw [a, b, c]; exact h1.inv.on hn, fun hn => by rw [a, c]; exact h1.inv.off hn⟩, by simp only [c]; exact h1.dn, h1.was, by simp only [b]; exact h1.done⟩
  · exact h1
theorem zapp_pow {n : Int} {D : Dv} (h : PInv n D) (z : Int) (m : List UInt8) : PStep n D (zapp D z m).1 (zapp D z m).2 := by
  unfold zapp
  split
  · rename_i h1; exact PStep.fnd h h1
  · rename_i h1
    have hd := zfnd_zero h1
    split
    · unfold zappA
      split
      · exact PStep.same h _ (.inr ⟨hd, show (71 : Int) ≠ 74 by decide⟩)
      · split
        · exact PStep.same h _ (.inr ⟨hd, show (72 : Int) ≠ 74 by decide⟩)
        · split
          · exact PStep.same h _ (.inr ⟨hd, show (73 : Int) ≠ 74 by decide⟩)
          · exact PStep.cmd h hd rfl rfl rfl
    · exact PStep.same h _ (.inr ⟨hd, show (70 : Int) ≠ 74 by decide⟩)
theorem zrst_pow {n : Int} {D : Dv} (h : PInv n D) (z : Int) : PStep n D (zrst D z).1 (zrst D z).2 := by
  unfold zrst
  split
  · rename_i h1; exact PStep.fnd h h1
  · rename_i h1; exact PStep.thn h (zfnd_zero h1) _ fun _ => ⟨rfl, rfl, rfl⟩
theorem zfin_pow {n : Int} {D : Dv} (h : PInv n D) (z : Int) : PStep n D (zfin D z).1 (zfin D z).2 := by
  unfold zfin
  split
  · rename_i h1; exact PStep.fnd h h1
  · rename_i h1
    have hd := zfnd_zero h1
    split
    · split
      · exact PStep.same h _ (.inr ⟨hd, show (71 : Int) ≠ 74 by decide⟩)
      · exact PStep.thn h hd _ fun _ => ⟨rfl, rfl, rfl⟩
    · exact PStep.same h _ (.inr ⟨hd, show (70 : Int) ≠ 74 by decide⟩)
theorem zflu_pow {n : Int} {D : Dv} (h : PInv n D) : PStep n D (zflu D).1 (zflu D).2 := by
  unfold zflu
  cases hd : D.down with
  | true => rw [if_pos rfl]; exact PStep.same h _ (.inl ⟨hd, rfl⟩)
  | false => rw [if_neg (by simp)]; exact PStep.thn h hd _ fun _ => ⟨rfl, rfl, rfl⟩
theorem zread_pow {n : Int} {D : Dv} (h : PInv n D) (z i j : Int) : PStep n D D (zread D z i j).2 := by
  unfold zread
  split
  · rename_i h1; exact PStep.fnd h h1
  · rename_i h1
    have hd := zfnd_zero h1
    split
    · unfold zrdb
      split
      · exact PStep.same h _ (.inr ⟨hd, show (70 : Int) ≠ 74 by decide⟩)
      · exact PStep.same h _ (.inr ⟨hd, show (0 : Int) ≠ 74 by decide⟩)
    · exact PStep.same h _ (.inr ⟨hd, show (70 : Int) ≠ 74 by decide⟩)
theorem zflu_free {D : Dv} (hd : D.down = false) (hl : D.left = -1) : (zflu D).2 = 0 := by
  unfold zflu
  rw [hd, if_neg (by simp)]
  unfold zthen
  rw [zcmd_free (by rw [hl]; decide)]
  rfl
theorem pinv0 (n : Int) (hn : n ≤ 9223372036854775807) : PInv n (zarmd (dv0 4 64 4) n) := by
  refine ⟨fun h => ⟨?_, ?_, fun e => by cases e⟩, fun h => ⟨?_, rfl⟩⟩
  · show 0 ≤ (if n < -1 then -1 else n); rw [if_neg (by omega)]; exact h
  · show (0 : Int) + (if n < -1 then -1 else n) = n; rw [if_neg (by omega)]; omega
  · show (if n < -1 then -1 else n) = -1; split <;> omega
set_option maxRecDepth 100000 in
set_option maxHeartbeats 8000000 in
theorem power_walk {w : World} {a : Option Addr} {c : Nat} {l : List ZO} (h : ZOs w a l) (hl : l.length ≤ maxLen) (pn : Int) (hpn : -9223372036854775808 ≤ pn ∧ pn ≤ 9223372036854775807) :
    Calls Try.prog 5 #[.int .i64 pn, .slice a l.length c] w fun e w' => e = .returned (.bool true) ∧ Below w.heap.size w w' := by
  have H := Lib.hid h
  have hn : Calls Try.prog 7 #[.agg #[.int .i64 4, .int .i64 64, .int .i64 4]] w fun e w' => ∃ p F, e = .returned (.pointer (some ⟨p, 0, none⟩)) ∧ DI w' w.heap.size p F (dv0 4 64 4) ∧ Below w.heap.size w w' := DI.new w 4 64 4 (by decide)
  have HN := Lib.hid hn
  have HPN := Lib.hid hpn
  clear h hn hpn
  go_enter Try.func5, Try.ntmps5
  go_wp2_with fail; (with_reducible refine (HN.out).mono ?_); rintro e w2 ⟨p, F1, rfl, hD1, hb2⟩
  have Hsm : Hid (Calls Try.prog 13 #[.slice a l.length c, .int .i64 60] w2 fun e w' => e = .returned (.bool (zsm l 60)) ∧ Below w2.heap.size w2 w') := Lib.hid (zsmall (c := c) (ZOs.belowz H.out hb2) hl 60)
  have HD1 := Lib.hid hD1
  have HB2 := Lib.hid hb2
  clear hD1 hb2 HN
  go_wp2_with fail; (with_reducible refine (Hsm.out).mono ?_); rintro e w3 ⟨rfl, hb3⟩
  have HD3 := Lib.hid (HD1.out.below hb3)
  have HB3 := Lib.hid (bnext HB2.out hb3)
  clear hb3 HD1 HB2 Hsm
  cases hsm : zsm l 60 with
  | false =>
    go_wp2_with fail; (with_reducible refine (awake07 _).mono ?_); rintro e w5 ⟨rfl, hb5⟩
    go_wp2
    go_ret
    exact ⟨rfl, bnext HB3.out hb5⟩
  | true =>
    obtain ⟨hl60, hdk⟩ := zsm_of hsm
    have HDK := Lib.hid hdk
    clear hsm hdk
    have Har := Lib.hid (HD3.out.arm pn HPN.out)
    go_wp2_with fail; (with_reducible refine (Har.out).mono ?_); rintro e w4 ⟨rfl, ho4⟩
    have hb4 := ho4.below HD3.out
    obtain ⟨⟨F4, hD4, _⟩, _⟩ := ho4
    have HD4 := Lib.hid hD4
    have HB4 := Lib.hid (HB3.out.trans hb4)
    have HP0 := Lib.hid (pinv0 pn HPN.out.2)
    clear hD4 hb4 Har HD3 HB3
    go_wp2
    go_loopw [30] (fun i wr => ∃ (n : Nat) (D : Dv) (F : Nat → Prop), n ≤ l.length ∧ i = .int .i64 n ∧ DI wr w.heap.size p F D ∧ PInv pn D ∧ D.done ≤ n ∧ Below w.heap.size w wr) (fun i _ => l.length - (intOf i).toNat)
    case atStart => exact ⟨0, _, F4, Nat.zero_le _, rfl, HD4.out, HP0.out, Nat.le_refl _, HB4.out⟩
    case round =>
      clear HD4 HB4 HP0
      obtain ⟨n, D, F, hn, rfl, hD, hinv, hdn, hbr⟩ := hrel
      have HD := Lib.hid hD
      have HI := Lib.hid hinv
      have HBR := Lib.hid hbr
      clear hD hinv
      by_cases hlt : n < l.length
      · obtain ⟨b, off, rfl, f0, f1, f2, f3, f4, f5, hok⟩ := H.out.cells hbr n hlt
        obtain ⟨hd400, hk70⟩ := HDK.out n hlt
        have HOK := Lib.hid hok
        clear hok hbr
        generalize l[n] = x at *
        obtain ⟨xk, xz, xa, xn, xda, xdc, xd, xka, xkc, xke⟩ := x
        simp only at f0 f1 f2 f3 f4 f5 hd400 hk70
        go_upto_region 8 with (fail)
        refine gen_wp (fun w' => w' = (wr.alloc (.cells #[.int .i64 xk, .int .i64 xz, .int .i64 xa, .int .i64 xn, .slice xda xd.length xdc, .slice xka xke.length xkc] 40))) rfl ?_
        rintro w4 hw4
        obtain ⟨c0, c1, c2, c3, c4, c5⟩ := cells6 wr (.int .i64 xk) (.int .i64 xz) (.int .i64 xa) (.int .i64 xn) (.slice xda xd.length xdc) (.slice xka xke.length xkc) 40
        have hb4 : Below wr.heap.size wr (wr.alloc (.cells #[.int .i64 xk, .int .i64 xz, .int .i64 xa, .int .i64 xn, .slice xda xd.length xdc, .slice xka xke.length xkc] 40)) := (Below.refl _ wr).alloc (Nat.le_refl _) _
        rw [← hw4] at c0 c1 c2 c3 c4 c5 hb4
        clear hw4
        have HD4 := Lib.hid (HD.out.below hb4)
        have HB4 := Lib.hid (bnext HBR.out hb4)
        have HRB4 : Hid (RB w4 (.slice xda xd.length xdc) xd) := Lib.hid (HOK.out.rb.below HB4.out)
        have Hdw := Lib.hid HD4.out.down
        clear hb4 f0 f1 f2 f3 f4 f5 HD HBR HOK
        generalize wr.heap.size = q4 at *
        have hdb : D.done < 4611686018427387904 := by omega
        go_wp2_with fail; (with_reducible refine (Hdw.out).mono ?_); rintro e w4 ⟨rfl, rfl⟩
        by_cases hdef : xk = 1 ∨ xk = 2 ∨ xk = 3 ∨ xk = 4 ∨ xk = 5
        case neg =>
          have k1 : xk ≠ 1 := by omega
          have k2 : xk ≠ 2 := by omega
          have k3 : xk ≠ 3 := by omega
          have k4 : xk ≠ 4 := by omega
          have k5 : xk ≠ 5 := by omega
          clear hdef
          go_wp2
          go_roundw
          case rel => exact ⟨n + 1, D, F, by omega, by go_num, HD4.out, HI.out, by omega, HB4.out⟩
          case measure => simp [intOf]; omega
        go_upto_block 2 with (fail)
        go_cut [8] from 38 to 74 (fun e wx => ∃ er D' F', e = .int .i64 er ∧ DI wx w.heap.size p F' D' ∧ PStep pn D D' er ∧ Below w.heap.size w wx)
        case first =>
          rcases hdef with rfl | rfl | rfl | rfl | rfl
          · have Hca := Lib.hid (HD4.out.append (D' := (zapp D xz xd).1) (er := (zapp D xz xd).2) hdb xz HRB4.out (by omega) rfl)
            have Hin := Lib.hid (zapp_pow HI.out xz xd)
            generalize zapp D xz xd = zr at *
            go_wp2_with fail; (with_reducible refine (Hca.out).mono ?_); rintro e w6 ⟨rfl, ho6⟩
            have hb6 := ho6.below HD4.out
            obtain ⟨⟨F6, hD6, _⟩, _⟩ := ho6
            have HD6 := Lib.hid hD6
            have HB6 := Lib.hid (HB4.out.trans hb6)
            clear hD6 hb6
            go_wp2
            go_meet
            exact ⟨_, _, F6, rfl, HD6.out, Hin.out, HB6.out⟩
          · have Hca := Lib.hid (HD4.out.read xz xa xn)
            have Hin := Lib.hid (zread_pow HI.out xz xa xn)
            generalize zread D xz xa xn = zr at *
            go_wp2_with fail; (with_reducible refine (Hca.out).mono ?_); rintro e w6 ⟨v6, rfl, ho6, hb6⟩
            obtain ⟨a6, c6, rfl, _⟩ := ho6.reads.shape
            have HD6 := Lib.hid (HD4.out.below hb6)
            have HB6 := Lib.hid (bnext HB4.out hb6)
            clear ho6 hb6
            go_wp2
            go_meet
            exact ⟨_, _, F, rfl, HD6.out, Hin.out, HB6.out⟩
          · have Hca := Lib.hid (HD4.out.reset (D' := (zrst D xz).1) (er := (zrst D xz).2) hdb xz rfl)
            have Hin := Lib.hid (zrst_pow HI.out xz)
            generalize zrst D xz = zr at *
            go_wp2_with fail; (with_reducible refine (Hca.out).mono ?_); rintro e w6 ⟨rfl, ho6⟩
            have hb6 := ho6.below HD4.out
            obtain ⟨⟨F6, hD6, _⟩, _⟩ := ho6
            have HD6 := Lib.hid hD6
            have HB6 := Lib.hid (HB4.out.trans hb6)
            clear hD6 hb6
            go_wp2
            go_meet
            exact ⟨_, _, F6, rfl, HD6.out, Hin.out, HB6.out⟩
          · have Hca := Lib.hid (HD4.out.finish (D' := (zfin D xz).1) (er := (zfin D xz).2) hdb xz rfl)
            have Hin := Lib.hid (zfin_pow HI.out xz)
            generalize zfin D xz = zr at *
            go_wp2_with fail; (with_reducible refine (Hca.out).mono ?_); rintro e w6 ⟨rfl, ho6⟩
            have hb6 := ho6.below HD4.out
            obtain ⟨⟨F6, hD6, _⟩, _⟩ := ho6
            have HD6 := Lib.hid hD6
            have HB6 := Lib.hid (HB4.out.trans hb6)
            clear hD6 hb6
            go_wp2
            go_meet
            exact ⟨_, _, F6, rfl, HD6.out, Hin.out, HB6.out⟩
          · have Hca := Lib.hid (HD4.out.flush (D' := (zflu D).1) (er := (zflu D).2) hdb rfl)
            have Hin := Lib.hid (zflu_pow HI.out)
            generalize zflu D = zr at *
            go_wp2_with fail; (with_reducible refine (Hca.out).mono ?_); rintro e w6 ⟨rfl, ho6⟩
            have hb6 := ho6.below HD4.out
            obtain ⟨⟨F6, hD6, _⟩, _⟩ := ho6
            have HD6 := Lib.hid hD6
            have HB6 := Lib.hid (HB4.out.trans hb6)
            clear hD6 hb6
            go_wp2
            go_meet
            exact ⟨_, _, F6, rfl, HD6.out, Hin.out, HB6.out⟩
        case rest =>
          clear hdef c0 c1 c2 c3 c4 c5
          obtain ⟨er, D', F', rfl, hD', hst, hbx⟩ := hcut
          have HD' := Lib.hid hD'
          have HST := Lib.hid hst
          have HBX := Lib.hid hbx
          have Hd1 := Lib.hid hD'.down
          have Hd2 := Lib.hid hD'.done
          have hdl : (D'.done : Int) ≤ n + 1 := by have := hst.done; omega
          have hon : 0 ≤ pn → ¬ (pn < (D'.done : Int)) := fun h0 => by obtain ⟨a, b, _⟩ := hst.inv.on h0; omega
          have hoff : pn < 0 → er ≠ 74 := fun h0 e => by
            have h1 := (hst.inv.off h0).2
            rw [hst.dn, e] at h1
            exact absurd h1 (by decide)
          rw [hst.dn] at Hd1
          have hwas := hst.was
          have hdn2 : D'.done ≤ n + 1 := by have := hst.done; omega
          clear hD' hst hbx Hdw HD4 HB4 HRB4 HI hdb
          generalize D.down = dw at *
          generalize hdd : ((D'.done : Nat) : Int) = dd at *
          clear hdd
          have h3 : (dw = true ∧ er = 74) ∨ (dw = false ∧ er = 74) ∨ (dw = false ∧ er ≠ 74) := by
            cases dw with
            | true => exact .inl ⟨rfl, hwas rfl⟩
            | false => by_cases he : er = 74
                       · exact .inr (.inl ⟨rfl, he⟩)
                       · exact .inr (.inr ⟨rfl, he⟩)
          clear hwas
          by_cases hp : 0 ≤ pn
          · have hq := hon hp
            clear hon hoff
            rcases h3 with ⟨rfl, rfl⟩ | ⟨rfl, rfl⟩ | ⟨rfl, he⟩
            · go_wp2_with fail; (with_reducible refine (Hd2.out).mono ?_); rintro e w9 ⟨rfl, rfl⟩
              go_wp2_with fail; (with_reducible refine (Hd1.out).mono ?_); rintro e w9 ⟨rfl, rfl⟩
              go_wp2
              go_roundw
              case rel => exact ⟨n + 1, D', F', by omega, by go_num, HD'.out, HST.out.inv, hdn2, HBX.out⟩
              case measure => simp [intOf]; omega
            · go_wp2_with fail; (with_reducible refine (Hd2.out).mono ?_); rintro e w9 ⟨rfl, rfl⟩
              go_wp2_with fail; (with_reducible refine (Hd1.out).mono ?_); rintro e w9 ⟨rfl, rfl⟩
              go_wp2
              go_roundw
              case rel => exact ⟨n + 1, D', F', by omega, by go_num, HD'.out, HST.out.inv, hdn2, HBX.out⟩
              case measure => simp [intOf]; omega
            · have hef : (er == 74) = false := beq_eq_false_iff_ne.2 he
              rw [hef] at Hd1
              go_wp2_with fail; (with_reducible refine (Hd2.out).mono ?_); rintro e w9 ⟨rfl, rfl⟩
              go_wp2_with fail; (with_reducible refine (Hd1.out).mono ?_); rintro e w9 ⟨rfl, rfl⟩
              go_wp2
              go_roundw
              case rel => exact ⟨n + 1, D', F', by omega, by go_num, HD'.out, HST.out.inv, hdn2, HBX.out⟩
              case measure => simp [intOf]; omega
          · have he := hoff (by omega)
            have hp2 : pn < 0 := by omega
            clear hon hoff hp
            have hdw : dw = false := by
              rcases h3 with ⟨_, h⟩ | ⟨h, _⟩ | ⟨h, _⟩
              · exact absurd h he
              · exact h
              · exact h
            subst hdw
            have hef : (er == 74) = false := beq_eq_false_iff_ne.2 he
            rw [hef] at Hd1
            clear h3
            go_wp2_with fail; (with_reducible refine (Hd1.out).mono ?_); rintro e w9 ⟨rfl, rfl⟩
            go_wp2_with fail; (with_reducible refine (Hd1.out).mono ?_); rintro e w9 ⟨rfl, rfl⟩
            go_wp2
            go_roundw
            case rel => exact ⟨n + 1, D', F', by omega, by go_num, HD'.out, HST.out.inv, hdn2, HBX.out⟩
            case measure => simp [intOf]; omega
      · have Hd1 := Lib.hid HD.out.down
        have Hd2 := Lib.hid HD.out.done
        have hkz : KZ wr none [] := fun h => by simp at h
        have Hcr : Hid (Calls Try.prog 20 #[.pointer (some ⟨p, 0, none⟩), .slice none 0 0] wr fun e w' => e = .returned (.tuple #[]) ∧ DOut wr w.heap.size p F (zcrs D []) w') := Lib.hid (HD.out.crash hkz rfl (by simp) (fun hp => by simp at hp) rfl)
        have hdd : D.down = true → (D.done : Int) = pn := fun hd => by
          by_cases hp : 0 ≤ pn
          · obtain ⟨a, b, c⟩ := HI.out.on hp
            have := c hd
            omega
          · have := (HI.out.off (by omega)).2
            rw [hd] at this; cases this
        have Hdd := Lib.hid hdd
        have hdb : D.done < 4611686018427387904 := by omega
        clear hkz hdd hbr
        cases hd : D.down with
        | true =>
          have e := Hdd.out hd
          rw [e] at Hd2
          rw [hd] at Hd1
          clear e hd Hdd
          go_wp2_with fail; (with_reducible refine (Hd1.out).mono ?_); rintro e w9 ⟨rfl, rfl⟩
          go_wp2_with fail; (with_reducible refine (Hd2.out).mono ?_); rintro e w9 ⟨rfl, rfl⟩
          go_wp2_with fail; (with_reducible refine (Hcr.out).mono ?_); rintro e w5 ⟨rfl, ho5⟩
          have hb5 := ho5.below HD.out
          obtain ⟨⟨F5, hD5, _⟩, _⟩ := ho5
          have Hd5 := Lib.hid (show Calls Try.prog 23 #[.pointer (some ⟨p, 0, none⟩)] w5 fun e w' => e = .returned (.bool false) ∧ w5 = w' from hD5.down)
          have Hf5 := Lib.hid (hD5.flush (D' := (zflu (zcrs D [])).1) (er := 0) (by show D.done < _; omega) (by rw [← zflu_free (D := zcrs D []) rfl rfl]))
          have HD5 := Lib.hid hD5
          have HB5 := Lib.hid (HBR.out.trans hb5)
          clear hD5 hb5
          go_wp2_with fail; (with_reducible refine (Hd5.out).mono ?_); rintro e w9 ⟨rfl, rfl⟩
          go_wp2_with fail; (with_reducible refine (Hf5.out).mono ?_); rintro e w6 ⟨rfl, ho6⟩
          have HB6 := Lib.hid (HB5.out.trans (ho6.below HD5.out))
          clear ho6
          go_wp2_with fail; (with_reducible refine (awake07 _).mono ?_); rintro e w7 ⟨rfl, hb7⟩
          go_wp2
          go_ret
          exact ⟨rfl, bnext HB6.out hb7⟩
        | false =>
          rw [hd] at Hd1
          clear hd Hdd
          go_wp2_with fail; (with_reducible refine (Hd1.out).mono ?_); rintro e w9 ⟨rfl, rfl⟩
          go_wp2_with fail; (with_reducible refine (Hcr.out).mono ?_); rintro e w5 ⟨rfl, ho5⟩
          have hb5 := ho5.below HD.out
          obtain ⟨⟨F5, hD5, _⟩, _⟩ := ho5
          have Hd5 := Lib.hid (show Calls Try.prog 23 #[.pointer (some ⟨p, 0, none⟩)] w5 fun e w' => e = .returned (.bool false) ∧ w5 = w' from hD5.down)
          have Hf5 := Lib.hid (hD5.flush (D' := (zflu (zcrs D [])).1) (er := 0) (by show D.done < _; omega) (by rw [← zflu_free (D := zcrs D []) rfl rfl]))
          have HD5 := Lib.hid hD5
          have HB5 := Lib.hid (HBR.out.trans hb5)
          clear hD5 hb5
          go_wp2_with fail; (with_reducible refine (Hd5.out).mono ?_); rintro e w9 ⟨rfl, rfl⟩
          go_wp2_with fail; (with_reducible refine (Hf5.out).mono ?_); rintro e w6 ⟨rfl, ho6⟩
          have HB6 := Lib.hid (HB5.out.trans (ho6.below HD5.out))
          clear ho6
          go_wp2_with fail; (with_reducible refine (awake07 _).mono ?_); rintro e w7 ⟨rfl, hb7⟩
          go_wp2
          go_ret
          exact ⟨rfl, bnext HB6.out hb7⟩
end Go.Proofs.Ytijgbciaifdbeaa
