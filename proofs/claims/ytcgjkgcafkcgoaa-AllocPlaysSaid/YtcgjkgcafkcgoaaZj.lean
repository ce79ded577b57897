/- A device of zones: the walk of Crash. -/
import Derived.Test.YtcgjkgcafkcgoaaZi
namespace Go.Proofs.Ytcgjkgcafkcgoaa
open Go.RowKit
set_option linter.unusedVariables false
set_option linter.unusedSimpArgs false

set_option maxRecDepth 100000 in
set_option maxHeartbeats 8000000 in
theorem zcrash {w : World} {B p r : Nat} {Z : List Zm} {D : Dv} (h : DM w B p r Z D) {ak : Option Addr} {ck : Nat} {keep : List Int} (hk : KZ w ak keep) (hkl : keep.length ≤ 9223372036854775807) (hfar : 0 < keep.length → ∀ b off, ak = some ⟨b, off, none⟩ → ¬ fpD p r Z b) :
    Calls Try.prog 28 #[.pointer (some ⟨p, 0, none⟩), .slice ak keep.length ck] w fun e w' => e = .returned (.tuple #[]) ∧ AppOut w B p r Z (zcrs D keep) w' := by
  have c3 := h.c3
  have hn64 := h.ok.n2
  have hs16 := h.ok.s1
  have H := Lib.hid h
  have HK := Lib.hid hk
  have HF := Lib.hid hfar
  have HlA := Lib.hid h.lenA
  have hln := h.len
  clear h hk hfar
  go_enter Try.func28, Try.ntmps28
  go_wp2
  go_loopw [12] (fun i wr => ∃ (n : Nat) (Z' : List Zm), n ≤ D.n ∧ i = .int .i64 n ∧ DM wr B p r Z' { D with A := zpm (zcut D.size keep) D.A n } ∧ (∀ q, fpD p r Z' q → fpD p r Z q) ∧ Chg (fpD p r Z) w wr) (fun i _ => D.n - (intOf i).toNat)
  case atStart => exact ⟨0, Z, Nat.zero_le _, rfl, by rw [zpm_zero]; exact H.out, fun q h => h, Chg.refl _ _⟩
  case round =>
    clear c3 hln
    obtain ⟨n, Z', hn, rfl, hD, hfp, hch⟩ := hrel
    have c3 : wr.cell? ⟨p, 3, none⟩ = some (.slice (some ⟨r, 0, none⟩) D.n D.n) := hD.c3
    have hl' : Z'.length = D.n := hD.len
    by_cases hlt : n < D.n
    · have hlz : n < Z'.length := by omega
      have hz : Z'[n].z = D.A[n]'(by rw [HlA.out]; exact hlt) := by rw [hD.at n hlz]; exact zpm_at _ _ _ _
      have hok : ZnOk D.size Z'[n].z := hD.zok n hlz
      have hs2 : D.size ≤ 65536 := hD.ok.s2
      have hself : (zpm (zcut D.size keep) D.A n).set n Z'[n].z = zpm (zcut D.size keep) D.A n := by
        refine List.ext_getElem (by simp) fun i h1 h2 => ?_
        rw [List.getElem_set]
        split
        · rename_i e; subst e; rw [hD.at n hlz]
        · rfl
      have hps : PS w B p r Z D (zpm (zcut D.size keep) D.A n) n Z'[n].z wr := ⟨Z', by rw [hself]; exact hD, hfp, hch⟩
      have hnx : (zpm (zcut D.size keep) D.A n).set n (zcut D.size keep n Z'[n].z) = zpm (zcut D.size keep) D.A (n + 1) := by rw [hz]; exact zpm_set _ _ _ _
      obtain ⟨k1, k2, k3⟩ := hok
      have hle := zmore_le keep n Z'[n].z k2
      have HPS := Lib.hid hps
      obtain ⟨d0, ⟨av, cv, d1⟩, d2, fz, c1, _⟩ := hps.cells hlt
      have HCH := Lib.hid hch
      have ez : ∀ mo, zmore keep n Z'[n].z = mo → zcut D.size keep n Z'[n].z = ⟨if Z'[n].z.fl + mo = 0 then 0 else if Z'[n].z.fl + mo = D.size ∨ Z'[n].z.st = 2 then 2 else 1, Z'[n].z.b.take (Z'[n].z.fl + mo), Z'[n].z.fl + mo⟩ := fun mo e => by unfold zcut; rw [e]
      obtain ⟨mo, hmo⟩ : ∃ mo, zmore keep n Z'[n].z = mo := ⟨_, rfl⟩
      rw [ez mo hmo] at hnx
      rw [hmo] at hle
      have Hnx := Lib.hid hnx
      have Hmo := Lib.hid hmo
      clear hnx hps hself hz hl' hfp hch hD hmo ez
      generalize Z'[n].z = a at *
      clear hlz
      generalize zpm (zcut D.size keep) D.A n = A0 at *
      obtain ⟨tb, htb⟩ : ∃ tb, decide (n < keep.length) = tb := ⟨_, rfl⟩
      have dfl : (0 : Int) ≤ (a.b.length : Int) - (a.fl : Int) ∧ (a.b.length : Int) - (a.fl : Int) ≤ 65536 := by omega
      obtain ⟨dfl1, dfl2⟩ := dfl
      go_upto_if 24 with (fail)
      have Htb := Lib.hid htb
      clear htb
      go_cut [6] from 25 to 40 (fun t wx => t = .int .i64 (mo : Nat) ∧ PS w B p r Z D A0 n a wx)
      case first =>
        cases tb with
        | true =>
          have hlk : n < keep.length := by have := of_decide_eq_true Htb.out; omega
          have hkz := HK.out.chg HCH.out (fun b off e => HF.out (by omega) b off e)
          obtain ⟨kb, koff, rfl, hkc⟩ := hkz (by omega)
          have hkn := hkc n hlk
          have hm : mo = (min (max keep[n] 0) ((a.b.length : Int) - (a.fl : Int))).toNat := by
            rw [← Hmo.out]; unfold zmore; rw [dif_pos hlk]
          clear hkz hkc
          generalize keep[n] = kn at *
          have h3 : kn < 0 ∨ (0 ≤ kn ∧ kn ≤ (a.b.length : Int) - (a.fl : Int)) ∨ (0 ≤ kn ∧ (a.b.length : Int) - (a.fl : Int) < kn) := by omega
          rcases h3 with h4 | ⟨h4, h5⟩ | ⟨h4, h5⟩
          · have e : ((mo : Nat) : Int) = 0 := by omega
            have He := Lib.hid e
            clear hm e
            go_wp2_with fail
            go_region
            go_wp2
            go_meet
            exact ⟨by rw [He.out], HPS.out.drew⟩
          · have e : ((mo : Nat) : Int) = kn := by omega
            have He := Lib.hid e
            clear hm e
            go_wp2_with fail
            go_region
            go_wp2
            go_meet
            exact ⟨by rw [He.out], HPS.out.drew⟩
          · have e : ((mo : Nat) : Int) = (a.b.length : Int) - (a.fl : Int) := by omega
            have He := Lib.hid e
            clear hm e
            go_wp2_with fail
            go_region
            go_wp2
            go_meet
            exact ⟨by rw [He.out], HPS.out.drew⟩
        | false =>
          have hlk : ¬ n < keep.length := by have := of_decide_eq_false Htb.out; omega
          have e : mo = 0 := by rw [← Hmo.out]; unfold zmore; rw [dif_neg hlk]
          have He := Lib.hid e
          clear e
          go_wp2
          go_meet
          exact ⟨by rw [He.out]; rfl, HPS.out⟩
      case rest =>
        obtain ⟨rfl, hps⟩ := hcut
        have HP3 := Lib.hid hps
        clear d0 d1 d2 fz c1 c3
        obtain ⟨d0, ⟨av3, cv3, d1⟩, d2, fz, c1, c3⟩ := hps.cells hlt
        have hbt := hps.bt hlt
        have hbl := k1
        have hm65 : a.fl + mo ≤ 65536 := by omega
        clear hps d0 d1 c1 c3 HPS HCH Hmo Htb
        go_upto_region 7 with (fail)
        go_cut [52] from 41 to 54 (fun t wx => PS w B p r Z D A0 n ⟨a.st, a.b.take (a.fl + mo), a.fl⟩ wx)
        case first =>
          rcases hbt with ⟨hb, dd, hp⟩ | ⟨g, c, hcl, hcm, dd, hp⟩
          · have e0 : a.b.length = 0 := by rw [hb]; rfl
            have e1 : a.fl = 0 := by omega
            have e2 : mo = 0 := by omega
            have e3 : (⟨a.st, a.b.take (a.fl + mo), a.fl⟩ : Zn) = a := by
              obtain ⟨st, b, fl⟩ := a
              simp only at hb
              rw [hb]; simp
            rw [e1] at d2
            subst e2
            have E3 := Lib.hid e3
            have HP := Lib.hid hp
            clear e0 e1 e3 hp hb
            go_region
            go_wp2
            go_meet
            rw [E3.out]
            exact HP.out.drew
          · have HP := Lib.hid (hp (a.fl + mo) hle (Nat.le_add_right _ _))
            unfold maxLen at hcm
            clear hp
            go_region
            go_wp2
            go_meet
            exact HP.out.drew
        case rest =>
          clear d2 fz hbt
          have hps := hcut
          have HP3 := Lib.hid hps
          obtain ⟨d0, ⟨av4, cv4, d1⟩, d2, fz, c1, c3⟩ := hps.cells hlt
          have el : (a.b.take (a.fl + mo)).length = a.fl + mo := by rw [List.length_take]; omega
          simp only [el] at d1
          have HF := Lib.hid (hps.fl hlt (a.fl + mo) (by simp only [el]; exact Nat.le_refl _))
          have fz2 := fz (n * 3 + 2)
          clear hps hcut d0 c1 c3 fz
          have Hel := Lib.hid el
          clear el
          generalize hM : a.fl + mo = M at *
          have HM := Lib.hid hM
          clear hM
          simp only at d2
          go_upto_region 10 with (fail)
          refine gen_wp (fun w' => PS w B p r Z D A0 n ⟨a.st, a.b.take M, M⟩ w') HF.out ?_
          rintro w5 hps
          have HP5 := Lib.hid hps
          clear d1 d2 fz2 HF HP3
          obtain ⟨d0, ⟨av5, cv5, d1⟩, d2, fz, c1, c3⟩ := hps.cells hlt
          simp only [Hel.out] at d0 d1 d2
          have fz0 := fz (n * 3)
          clear hps d2 fz c3
          have hend : Hid (∀ s wx, PS w B p r Z D A0 n ⟨s, a.b.take M, M⟩ wx → s = (if M = 0 then 0 else if M = D.size ∨ a.st = 2 then 2 else 1) → ∃ (n' : Nat) (Z' : List Zm), n' ≤ D.n ∧ Value.int .i64 ((n : Int) + 1) = .int .i64 n' ∧ DM wx B p r Z' { D with A := zpm (zcut D.size keep) D.A n' } ∧ (∀ q, fpD p r Z' q → fpD p r Z q) ∧ Chg (fpD p r Z) w wx) := Lib.hid fun s wx h hs => by
            obtain ⟨Z1, h1, h2, h3⟩ := h
            refine ⟨n + 1, Z1, by omega, by go_num, ?_, h2, h3⟩
            rw [← Hnx.out, ← hs]
            exact h1
          clear Hnx
          by_cases hM0 : M = 0
          · have HE := Lib.hid (hend.out 0 _ (HP5.out.st hlt 0 (by decide)) (by rw [if_pos hM0]))
            subst hM0
            clear hend
            go_wp2
            go_roundw
            case rel => exact HE.out
            case measure => simp [intOf]; omega
          · have hM0f : (((M : Nat) : Int) == 0) = false := by rw [beq_eq_false_iff_ne]; omega
            go_upto_region 12 with (fail)
            by_cases hMs : M = D.size
            · have HE := Lib.hid (hend.out 2 _ (HP5.out.st hlt 2 (by decide)).drew (by rw [if_neg hM0, if_pos (.inl hMs)]))
              rw [hMs] at d1
              clear hend hM0f hM0
              go_region
              go_wp2
              go_roundw
              case rel => exact HE.out
              case measure => simp [intOf]; omega
            · have hMsf : (((M : Nat) : Int) == (D.size : Int)) = false := by rw [beq_eq_false_iff_ne]; omega
              by_cases hst : a.st = 2
              · have HE := Lib.hid (hend.out 2 _ (HP5.out.st hlt 2 (by decide)).drew (by rw [if_neg hM0, if_pos (.inr hst)]))
                rw [hst] at d0
                clear hend hM0 hMs
                go_region
                go_wp2
                go_roundw
                case rel => exact HE.out
                case measure => simp [intOf]; omega
              · have HE := Lib.hid (hend.out 1 _ (HP5.out.st hlt 1 (by decide)).drew (by rw [if_neg hM0, if_neg (by rintro (h | h); exact hMs h; exact hst h)]))
                have hstf : (((a.st : Nat) : Int) == 2) = false := by rw [beq_eq_false_iff_ne]; omega
                clear hend hM0 hMs hst
                go_region
                go_wp2
                go_roundw
                case rel => exact HE.out
                case measure => simp [intOf]; omega
    · have e : zpm (zcut D.size keep) D.A n = D.A.mapIdx (zcut D.size keep) := zpm_all _ _ _ (by rw [HlA.out]; omega)
      rw [e] at hD
      have f4 := hD.frz 4
      have f6 := hD.frz 6
      have c4 := hD.c4
      have c6 := hD.c6
      have h1 := hD.putB (D' := { D with A := D.A.mapIdx (zcut D.size keep), left := -1 }) 4 (.int .i64 (-1)) rfl rfl rfl ⟨hD.ok.n1, hD.ok.n2, hD.ok.s1, hD.ok.s2, hD.ok.o1, hD.ok.o2, show (-1 : Int) ≤ -1 by decide, show (-1 : Int) ≤ 9223372036854775807 by decide, hD.ok.dn, hD.ok.zs⟩
      have h2 := h1.putB (D' := zcrs D keep) 6 (.bool false) rfl rfl rfl ⟨hD.ok.n1, hD.ok.n2, hD.ok.s1, hD.ok.s2, hD.ok.o1, hD.ok.o2, show (-1 : Int) ≤ -1 by decide, show (-1 : Int) ≤ 9223372036854775807 by decide, hD.ok.dn, hD.ok.zs⟩
      have H2 := Lib.hid h2
      have HP := Lib.hid hfp
      have HH := Lib.hid hch
      clear h1 h2 hD hfp hch e hl'
      go_wp2
      go_end0
      exact ⟨rfl, ⟨_, H2.out, fun q hq => .inl (HP.out q hq)⟩, (HH.out.trans2 (Chg.set _ p _ _) fun i hi h => .inl h).trans2 (Chg.set _ p _ _) fun i hi h => .inl h⟩
end Go.Proofs.Ytcgjkgcafkcgoaa
