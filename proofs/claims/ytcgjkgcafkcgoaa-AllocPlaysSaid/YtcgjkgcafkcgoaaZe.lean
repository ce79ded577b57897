/- A device of zones: the walk of Append. -/
import Derived.Test.YtcgjkgcafkcgoaaZd
import Derived.Deep.QuietTactic
import Derived.BigQuiet
namespace Go.Proofs.Ytcgjkgcafkcgoaa
open Go.RowKit
set_option linter.unusedVariables false
set_option linter.unusedSimpArgs false

set_option maxRecDepth 100000 in
set_option maxHeartbeats 8000000 in
theorem zappend {w : World} {B p r : Nat} {Z : List Zm} {D : Dv} (h : DM w B p r Z D) (hdn : D.done < 4611686018427387904) (z : Int) {ao : Option Addr} {c : Nat} {m : List UInt8} (hr : RB w (.slice ao m.length c) m) (hml : m.length ≤ 1000000) :
    Calls Try.prog 19 #[.pointer (some ⟨p, 0, none⟩), .int .i64 z, .slice ao m.length c] w fun e w' => e = .returned (.int .i64 (zapp D z m).2) ∧ AppOut w B p r Z (zapp D z m).1 w' := by
  rcases zcases D z with hz | ⟨hd, k, rfl, hm⟩
  · have Hf := Lib.hid (zfind_bad h z hz)
    rw [zapp_bad hz]
    obtain ⟨_, he⟩ := zfnd_ne hz
    have H := Lib.hid h
    clear hz h hr
    generalize zfnd D z = e0 at *
    rcases he with rfl | rfl
    all_goals
      go_enter Try.func19, Try.ntmps19
      go_wp2_with fail; (with_reducible refine (Hf.out).mono ?_); rintro e w ⟨rfl, rfl⟩
      go_wp2
      go_ret
      exact ⟨rfl, AppOut.same H.out (Below.refl _ _)⟩
  · have Hf := Lib.hid (zfind_in h k hd hm)
    have hlz : k < Z.length := by rw [h.len]; exact hm
    have hlA : k < D.A.length := by rw [h.lenA]; exact hm
    rw [zapp_in hd hm hlA, ← h.at k hlz]
    have hok := h.ok.zs _ (by rw [← h.abs]; exact List.mem_map.2 ⟨Z[k], List.getElem_mem hlz, rfl⟩)
    obtain ⟨k1, k2, k3⟩ := hok
    have hs1 := h.ok.s1
    have hs2 := h.ok.s2
    have ho1 := h.ok.o1
    have hn2 := h.ok.n2
    have ho2 := h.ok.o2
    have hB := h.low
    have hps := blk_lt h.box
    have hbz : B ≤ w.heap.size := by omega
    have Hop := Lib.hid (fun W (hW : Below w.heap.size w W) => zopened (h.below hW))
    have hle := zopn_le D.A
    rw [h.lenA] at hle
    obtain ⟨av, cv, hv, hcv, d0, d1, d2⟩ := h.zn k hlz
    obtain ⟨_, c1, c2, _, _, _, _⟩ := h.cells
    have H := Lib.hid h
    have Hr := Lib.hid hr
    have Hv := Lib.hid hv
    clear h hr hv hd hlA
    unfold zappA
    by_cases hst2 : Z[k].z.st = 2
    · rw [if_pos hst2]
      rw [hst2] at d0
      clear hst2 k3 k1 k2
      go_enter Try.func19, Try.ntmps19
      go_wp2_with fail; (with_reducible refine (Hf.out).mono ?_); rintro e w ⟨rfl, rfl⟩
      go_wp2
      go_ret
      exact ⟨rfl, AppOut.same H.out (Below.refl _ _)⟩
    · rw [if_neg hst2]
      have hc6 : ∃ tb : Bool, tb = decide (Z[k].z.st = 0 ∧ D.op ≤ zopn D.A) := ⟨_, rfl⟩
      obtain ⟨tb, htb⟩ := hc6
      have Htb := Lib.hid htb
      generalize hres : (if Z[k].z.st = 0 ∧ D.op ≤ zopn D.A then (D, (72 : Int)) else if D.size < Z[k].z.b.length + m.length then (D, 73) else zcmd { D with A := D.A.set k ⟨if Z[k].z.b.length + m.length = D.size then 2 else 1, Z[k].z.b ++ m, Z[k].z.fl⟩ }) = res
      have Hres := Lib.hid hres
      clear hres
      have Hst := Lib.hid hst2
      have dd0 := cell_next d0
      have dd1 := cell_next d1
      have cc1 := cell_next c1
      have cc2 := cell_next c2
      go_enter Try.func19, Try.ntmps19
      go_wp2_with fail; (with_reducible refine (Hf.out).mono ?_); rintro e w ⟨rfl, rfl⟩
      have hs2f : (((Z[k].z.st : Nat) : Int) == 2) = false := by rw [beq_eq_false_iff_ne]; omega
      have Hb := Lib.hid k1
      clear htb c1 c2 d1 d2 k1 k2
      go_upto_region 6 with (fail)
      go_cut [25] from 26 to 40 (fun t wx => t = .bool tb ∧ Below w.heap.size w wx)
      case first =>
        have h01 : Z[k].z.st = 0 ∨ Z[k].z.st = 1 := by omega
        have Bq := bnext_grow (Below.refl w.heap.size w)
        rcases h01 with h0 | h0
        · rw [h0] at Htb dd0 d0
          have hzz : zopn D.A ≤ 64 := by omega
          clear h0 hs2f hst2 dd1 cc1
          generalize zopn D.A = zo at *
          generalize D.op = op at *
          by_cases hlo : op ≤ zo
          · obtain rfl : tb = true := by rw [Htb.out]; exact decide_eq_true ⟨rfl, hlo⟩
            refine wp_region_quiet_below (by kernel_rfl) (by kernel_rfl) ?_; (repeat (go_big_quiet_step ((go_at_call 37; (with_reducible refine Calls.regrown_of (Hop.out _ (Bq _ _))))))); refine wpQuiet_nil ?_; rintro _ ⟨pq, rfl⟩
            go_wp2
            go_meet
            exact ⟨rfl, Bq _ _⟩
          · obtain rfl : tb = false := by rw [Htb.out]; exact decide_eq_false (fun h => hlo h.2)
            refine wp_region_quiet_below (by kernel_rfl) (by kernel_rfl) ?_; (repeat (go_big_quiet_step ((go_at_call 37; (with_reducible refine Calls.regrown_of (Hop.out _ (Bq _ _))))))); refine wpQuiet_nil ?_; rintro _ ⟨pq, rfl⟩
            go_wp2
            go_meet
            exact ⟨rfl, Bq _ _⟩
        · rw [h0] at Htb dd0 d0
          obtain rfl : tb = false := by rw [Htb.out]; exact decide_eq_false (fun h => by have := h.1; omega)
          clear h0 hs2f hst2 dd1 cc1 cc2
          refine wp_region_quiet_below (by kernel_rfl) (by kernel_rfl) ?_; (repeat (go_big_quiet_step ((fail)))); refine wpQuiet_nil ?_; rintro _ ⟨pq, rfl⟩
          go_wp2
          go_meet
          exact ⟨rfl, Bq _ _⟩
      case rest =>
        obtain ⟨rfl, hb2⟩ := hcut
        have HB2 := Lib.hid hb2
        clear hb2 dd0 dd1 cc1 cc2 d0 hs2f Hop
        cases htb2 : tb with
        | true =>
          have e : (Z[k].z.st = 0 ∧ D.op ≤ zopn D.A) := by
            have := Htb.out
            rw [htb2] at this
            exact of_decide_eq_true this.symm
          have e3 : res = (D, 72) := by rw [← Hres.out, if_pos e]
          have E3 := Lib.hid e3
          clear e e3 Htb
          go_wp2
          go_ret
          rw [E3.out]
          exact ⟨rfl, AppOut.same H.out HB2.out⟩
        | false =>
          have e : ¬ (Z[k].z.st = 0 ∧ D.op ≤ zopn D.A) := by
            have := Htb.out
            rw [htb2] at this
            exact of_decide_eq_false this.symm
          have e3 := Hres.out
          rw [if_neg e] at e3
          have E3 := Lib.hid e3
          clear e e3 Htb
          subst htb2
          have hD2 := H.out.below HB2.out
          obtain ⟨_, c1, _, _, _, _, _⟩ := hD2.cells
          obtain ⟨av2, cv2, hv2, _, d0, d1, d2⟩ := hD2.zn k hlz
          have hsz : (D.size : Int) - (Z[k].z.b.length : Int) ≤ 65536 ∧ (0 : Int) ≤ (D.size : Int) - (Z[k].z.b.length : Int) := by have := Hb.out; omega
          obtain ⟨z1, z2⟩ := hsz
          have HD2 := Lib.hid hD2
          have hml2 : (m.length : Int) ≤ 1000000 := by omega
          have HV2 := Lib.hid hv2
          clear hD2 hv2 d0 d2
          go_upto_region 8 with (fail)
          by_cases hfull : D.size < Z[k].z.b.length + m.length
          · have e4 := E3.out
            rw [if_pos hfull] at e4
            have E4 := Lib.hid e4
            clear e4
            have hf2 : (D.size : Int) - (Z[k].z.b.length : Int) < (m.length : Int) := by omega
            go_region
            go_wp2
            go_ret
            rw [← E4.out]
            exact ⟨rfl, AppOut.same H.out HB2.out.drew⟩
          · have e4 := E3.out
            rw [if_neg hfull] at e4
            have E4 := Lib.hid e4
            clear e4
            have hf2 : (m.length : Int) ≤ (D.size : Int) - (Z[k].z.b.length : Int) := by omega
            go_region
            have hD3 := HD2.out.below (Below.refl _ _).drew
            have hr3 := (Hr.out.below HB2.out).drew
            have hO := hD3.ent _ (List.getElem_mem hlz)
            rw [HV2.out] at hO
            have HO := Lib.hid hO
            have HR3 := Lib.hid hr3
            have HD3 := Lib.hid hD3
            have hlen3 : Z[k].z.b.length + m.length ≤ 140737488355328 := by have := Hb.out; omega
            have hbw := Nat.le_trans hbz HB2.out.drew.size
            clear hD3 hr3 hO
            go_upto_region 11 with (at_builtin; go_loud (refine wpList_appr rfl (.tmp 60) (.tmp 61) rfl B _ Z[k].z.b rfl HO.out _ m rfl HR3.out hlen3 hbw ?_); intro v1 w1 ho1 hold ha1; rw [← HV2.out] at hold ha1; have hp1 := HD3.out.appPut k hlz ho1 hold ha1 (Nat.le_of_not_lt hfull); have hD1 := HD3.out.appKeep k hlz hold ha1; obtain ⟨a1, c1', rfl, _⟩ := ho1.reads.shape; obtain ⟨_, _, _, _, e0, e1, e2⟩ := hD1.zn k hlz; have fz := hD1.zfz (k * 3 + 1); simp only [List.length_append] at hp1; have HP1 := Lib.hid hp1; clear hold ha1 ho1 hp1 hD1 e0 e2)
            refine gen_wp (fun w' => DM w' B p r (Z.set k ⟨⟨Z[k].z.st, Z[k].z.b ++ m, Z[k].z.fl⟩, .slice a1 (Z[k].z.b.length + m.length) c1'⟩) { D with A := D.A.set k ⟨Z[k].z.st, Z[k].z.b ++ m, Z[k].z.fl⟩ } ∧ Chg (fpD p r Z) w w') ?_ ?_
            · exact ⟨HP1.out.1, (Chg.of_below HB2.out.drew).trans2 HP1.out.2.1 fun i hi h => h⟩
            rintro w4 ⟨hD4, hch4⟩
            have Hfp : Hid (∀ q, fpD p r (Z.set k ⟨⟨Z[k].z.st, Z[k].z.b ++ m, Z[k].z.fl⟩, .slice a1 (Z[k].z.b.length + m.length) c1'⟩) q → fpD p r Z q ∨ w.heap.size ≤ q) := Lib.hid fun q hq => by
              rcases HP1.out.2.2 q hq with h1 | h1
              · exact .inl h1
              · exact .inr (Nat.le_trans HB2.out.drew.size h1)
            obtain ⟨d0, _, _⟩ := hD4.znS hlz
            have fz := hD4.zfz (k * 3)
            have HD4 := Lib.hid hD4
            have HC4 := Lib.hid hch4
            clear hD4 hch4 HD3 HO HP1 HV2 c1 d1
            go_upto_region 12 with (fail)
            refine gen_wp (fun w' => DM w' B p r (Z.set k ⟨⟨1, Z[k].z.b ++ m, Z[k].z.fl⟩, .slice a1 (Z[k].z.b.length + m.length) c1'⟩) { D with A := D.A.set k ⟨1, Z[k].z.b ++ m, Z[k].z.fl⟩ } ∧ Chg (fpD p r Z) w w') ?_ ?_
            · exact ⟨HD4.out.putSt2 hlz 1 (by decide), HC4.out.trans2 (Chg.set w4 r _ _) fun i hi h => .inr (.inl h)⟩
            rintro w5 ⟨hD5, hch5⟩
            obtain ⟨e0, e1, _⟩ := hD5.znS hlz
            simp only at e0 e1
            obtain ⟨_, c1, _, _, _, _, _⟩ := hD5.cells
            have fz5 := hD5.zfz (k * 3)
            have HD5 := Lib.hid hD5
            have HC5 := Lib.hid hch5
            clear hD5 hch5 HD4 HC4 fz d0
            have hcmd : Hid (∀ w6 st, DM w6 B p r (Z.set k ⟨⟨st, Z[k].z.b ++ m, Z[k].z.fl⟩, .slice a1 (Z[k].z.b.length + m.length) c1'⟩) { D with A := D.A.set k ⟨st, Z[k].z.b ++ m, Z[k].z.fl⟩ } → Chg (fpD p r Z) w w6 → res = zcmd { D with A := D.A.set k ⟨st, Z[k].z.b ++ m, Z[k].z.fl⟩ } →
                Calls Try.prog 38 #[.pointer (some ⟨p, 0, none⟩)] w6 fun e w' => e = .returned (.int .i64 res.2) ∧ AppOut w B p r Z res.1 w') := Lib.hid fun w6 st h6 hc6 hr6 => by
              rw [hr6]
              refine (zcommand h6 hdn).mono ?_
              rintro e w7 ⟨rfl, h7, hc7⟩
              exact ⟨rfl, ⟨_, h7, fun q hq => Hfp.out q (by refine fpD_v ?_ hq; rfl)⟩, hc6.trans2 hc7 fun i hi e => .inl e⟩
            have hbl : Z[k].z.b.length + m.length ≤ 65536 := by omega
            by_cases hfu : Z[k].z.b.length + m.length = D.size
            · have h7 : DM (w5.setCell ⟨r, k * 3, none⟩ (.int .i64 2)).drew B p r _ _ := (HD5.out.putSt2 hlz 2 (by decide)).below (Below.refl _ _).drew
              have hc7 : Chg (fpD p r Z) w (w5.setCell ⟨r, k * 3, none⟩ (.int .i64 2)).drew := (HC5.out.trans2 (Chg.set w5 r (k * 3) (.int .i64 2)) fun i hi h => .inr (.inl h)).trans (Chg.of_below (Below.refl _ _).drew)
              have e5 := E4.out
              rw [if_pos hfu] at e5
              have Hfin := Lib.hid (hcmd.out _ 2 h7 hc7 e5.symm)
              rw [hfu] at e1
              clear h7 hc7 e5 hfu Hfp E4 HD5 HC5
              go_region
              go_wp2_with fail; (with_reducible refine (Hfin.out).mono ?_); rintro e w8 ⟨rfl, h8⟩
              go_wp2
              go_ret
              exact ⟨rfl, h8⟩
            · have h6 := HD5.out.below (Below.refl _ w5).drew
              have hc7 := HC5.out.trans (Chg.of_below (Below.refl _ w5).drew)
              have e5 := E4.out
              rw [if_neg hfu] at e5
              have Hfin := Lib.hid (hcmd.out _ 1 h6 hc7 e5.symm)
              have hne : (((Z[k].z.b.length + m.length : Nat) : Int) == (D.size : Int)) = false := by rw [beq_eq_false_iff_ne]; omega
              clear h6 hc7 e5 Hfp E4 HD5 HC5
              generalize Z[k].z.b.length + m.length = L2 at *
              clear hfu
              go_region
              go_wp2_with fail; (with_reducible refine (Hfin.out).mono ?_); rintro e w8 ⟨rfl, h8⟩
              go_wp2
              go_ret
              exact ⟨rfl, h8⟩
end Go.Proofs.Ytcgjkgcafkcgoaa
