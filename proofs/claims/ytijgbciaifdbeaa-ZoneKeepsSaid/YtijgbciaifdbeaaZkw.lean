/- ZoneKeeps: its walk. -/
import Derived.Test.YtijgbciaifdbeaaZkm
import Derived.Test.YtijgbciaifdbeaaZow
import Derived.Test.YtijgbciaifdbeaaLess
import Derived.Laws.OwnMore
namespace Go.Proofs.Ytijgbciaifdbeaa
open Go.RowKit
set_option linter.unusedVariables false
set_option linter.unusedSimpArgs false

theorem infoSlB : (Try.prog.info? 28).map (fun i => (i.zero, i.size, i.bytes)) = some (some (.slice none 0 0), 1, 24) := by kernel_rfl
theorem infoIntZ : (Try.prog.info? 3).map (fun i => (i.zero, i.size, i.bytes)) = some (some (.int .i64 0), 1, 8) := by kernel_rfl
theorem wpList_mk1 {w : World} {ops : Array Oper} {rest : List Oper} {o : Oper} {a : Act} {Q : Exit → Act → World → Prop} (hg : o.guard = none) (l c : Operand) (t e : TypeId) (i0 : TypeInfo) (zv : Value) (bytes : Nat)
    (ht : Try.prog.underlying t = some (.slice e)) (hi : Try.prog.info? e = some i0) (hz0 : i0.zero = some zv) (hz1 : i0.size = 1) (hz2 : i0.bytes = bytes) (hb : bytes ≤ 24) (hzc : zv.cells = #[zv])
    (ho : o.op = Op.makeSlice t l c) (base n : Nat) (hl : a.eval l = .int .i64 n) (hc : a.eval c = .int .i64 n) (hn : n ≤ 10000) (hbase : base ≤ w.heap.size)
    (h : ∀ w', w'.ownsRow base e 1 (.slice (some ⟨w.heap.size, 0, none⟩) n n) n (List.replicate n zv) → Below w.heap.size w w' → wpList Try.prog ops Q rest (a.put o.dst (.slice (some ⟨w.heap.size, 0, none⟩) n n)) w') :
    wpList Try.prog ops Q (o :: rest) a w := by
  refine wpList_make_full w hg l c t ho base e i0 zv 1 ht hi hz0 hz1 .i64 .i64 n n n hl hc rfl rfl (by rw [hz2]; have : bytes * n ≤ 24 * n := Nat.mul_le_mul_right _ hb; omega) (by unfold maxLen; omega) hbase ?_
  intro w' hown hgr
  refine h w' ?_ ⟨hgr.os, hgr.tape, hgr.output, hgr.size, fun k hk => hgr.block k hk (by simp)⟩
  have e : (madeCells zv.cells (n * 1)).toList = List.replicate n zv := by
    rw [Nat.mul_one, hzc]; exact toList_madeCells_one _ _
  rw [e] at hown
  exact hown
/-- what holds at the head of the loop -/
def KpI (w0 w : World) (p la sa n : Nat) (k : Nat) : Prop :=
  ∃ (D : Dv) (F : Nat → Prop) (vs : List Value), DI w w0.heap.size p F D ∧ KM w w0.heap.size la sa n F vs (D.A.map Zn.b) (D.A.map Zn.fl) ∧ D.n = n ∧ D.done ≤ k ∧ Below w0.heap.size w0 w
theorem kpi_done {D D' : Dv} (k : Nat) (h : D'.done ≤ D.done + 1) (h2 : D.done ≤ k) : D'.done ≤ k + 1 := by omega
theorem zcmd_dn (D : Dv) : (zcmd D).1.done ≤ D.done + 1 ∧ (zcmd D).1.n = D.n := by
  refine ⟨?_, (zcmd_two D).2.2.1⟩
  unfold zcmd; split
  · exact Nat.le_succ _
  · exact Nat.le_refl _
theorem zthen_dn (D : Dv) (f : Dv → Dv) (hf : ∀ D', (f D').done = D'.done ∧ (f D').n = D'.n) : (zthen D f).1.done ≤ D.done + 1 ∧ (zthen D f).1.n = D.n := by
  unfold zthen
  split
  · obtain ⟨a, b⟩ := hf (zcmd D).1
    obtain ⟨c, d⟩ := zcmd_dn D
    exact ⟨by simp only [a]; exact c, by simp only [b]; exact d⟩
  · exact zcmd_dn D
theorem zapp_dn (D : Dv) (z : Int) (m : List UInt8) : (zapp D z m).1.done ≤ D.done + 1 ∧ (zapp D z m).1.n = D.n := by
  unfold zapp
  split
  · exact ⟨Nat.le_succ _, rfl⟩
  · split
    · unfold zappA
      split
      · exact ⟨Nat.le_succ _, rfl⟩
      · split
        · exact ⟨Nat.le_succ _, rfl⟩
        · split
          · exact ⟨Nat.le_succ _, rfl⟩
          · exact zcmd_dn _
    · exact ⟨Nat.le_succ _, rfl⟩
theorem zrst_dn (D : Dv) (z : Int) : (zrst D z).1.done ≤ D.done + 1 ∧ (zrst D z).1.n = D.n := by
  unfold zrst
  split
  · exact ⟨Nat.le_succ _, rfl⟩
  · exact zthen_dn D _ fun _ => ⟨rfl, rfl⟩
theorem zfin_dn (D : Dv) (z : Int) : (zfin D z).1.done ≤ D.done + 1 ∧ (zfin D z).1.n = D.n := by
  unfold zfin
  split
  · exact ⟨Nat.le_succ _, rfl⟩
  · split
    · split
      · exact ⟨Nat.le_succ _, rfl⟩
      · exact zthen_dn D _ fun _ => ⟨rfl, rfl⟩
    · exact ⟨Nat.le_succ _, rfl⟩
theorem zflu_dn (D : Dv) : (zflu D).1.done ≤ D.done + 1 ∧ (zflu D).1.n = D.n := by
  unfold zflu
  split
  · exact ⟨Nat.le_succ _, rfl⟩
  · exact zthen_dn D _ fun _ => ⟨rfl, rfl⟩
set_option maxRecDepth 100000 in
set_option maxHeartbeats 16000000 in
theorem keeps_walk {w : World} {a : Option Addr} {c : Nat} {l : List ZO} (h : ZOs w a l) (hl : l.length ≤ maxLen) (gn gs go : Int) :
    Calls Try.prog 6 #[.agg #[.int .i64 gn, .int .i64 gs, .int .i64 go], .slice a l.length c] w fun e w' => e = .returned (.bool true) ∧ Below w.heap.size w w' := by
  have hb0 : Below w.heap.size w (w.alloc (.cells #[.int .i64 gn, .int .i64 gs, .int .i64 go] 26)) := (Below.refl _ w).alloc (Nat.le_refl _) _
  obtain ⟨g0, g1, g2⟩ := box3 w (.int .i64 gn) (.int .i64 gs) (.int .i64 go) 26
  have HB0 := Lib.hid hb0
  have HS0 := Lib.hid hb0.size
  have H := Lib.hid (h.belowz hb0)
  clear h hb0
  go_enter Try.func6, Try.ntmps6
  go_upto_region 1 with (fail)
  refine gen_wp (fun w' => w' = (w.alloc (.cells #[.int .i64 gn, .int .i64 gs, .int .i64 go] 26))) rfl ?_
  rintro w0 rfl
  generalize hq : w.heap.size = q at *
  generalize (w.alloc (.cells #[.int .i64 gn, .int .i64 gs, .int .i64 go] 26)) = w0 at *
  have HQ := Lib.hid hq
  clear hq
  cases hg : gchk gn gs go with
  | false =>
    have Hn := Lib.hid (znew_nil w0 gn gs go hg)
    have Hck : Hid (∀ W, Calls Try.prog 14 #[.agg #[.int .i64 gn, .int .i64 gs, .int .i64 go]] W fun e w' => e = .returned (.bool false) ∧ Below W.heap.size W w') := Lib.hid fun W => by
      have := zcheck W gn gs go
      rw [hg] at this; exact this
    clear hg
    go_wp2_with fail; (with_reducible refine (Hn.out).mono ?_); rintro e w2 ⟨rfl, hb2⟩
    have e0 := cell_next g0 _ hb2
    have e1 := cell_next g1 _ hb2
    have e2 := cell_next g2 _ hb2
    go_wp2_with fail; (with_reducible refine (Hck.out _).mono ?_); rintro e w3 ⟨rfl, hb3⟩
    go_wp2_with fail; (with_reducible refine (awake07 _).mono ?_); rintro e w4 ⟨rfl, hb4⟩
    go_wp2
    go_ret
    exact ⟨rfl, by rw [HQ.out]; exact HB0.out.trans ((bnext (bnext hb2 hb3) hb4).mono HS0.out)⟩
  | true =>
    obtain ⟨n0, s0, o0, rfl, rfl, rfl⟩ := gchk_nat hg
    have Hn := Lib.hid (DI.new w0 n0 s0 o0 hg)
    have Hck : Hid (∀ W, Calls Try.prog 14 #[.agg #[.int .i64 n0, .int .i64 s0, .int .i64 o0]] W fun e w' => e = .returned (.bool true) ∧ Below W.heap.size W w') := Lib.hid fun W => by
      have := zcheck W n0 s0 o0
      rw [hg] at this; exact this
    clear hg
    go_wp2_with fail; (with_reducible refine (Hn.out).mono ?_); rintro e w2 ⟨p, F1, rfl, hD1, hb2⟩
    have Hsm : Hid (Calls Try.prog 13 #[.slice a l.length c, .int .i64 100] w2 fun e w' => e = .returned (.bool (zsm l 100)) ∧ Below w2.heap.size w2 w') := Lib.hid (zsmall (c := c) (ZOs.belowz H.out hb2) hl 100)
    have e0 := cell_next g0 _ hb2
    have e1 := cell_next g1 _ hb2
    have e2 := cell_next g2 _ hb2
    have HD1 := Lib.hid hD1
    have HB2 := Lib.hid hb2
    clear hD1 hb2
    go_wp2_with fail; (with_reducible refine (Hsm.out).mono ?_); rintro e w3 ⟨rfl, hb3⟩
    have f0 := cell_next e0 _ hb3
    have f1 := cell_next e1 _ hb3
    have f2 := cell_next e2 _ hb3
    have HD3 := Lib.hid (HD1.out.below hb3)
    have HB3 := Lib.hid (bnext HB2.out hb3)
    clear hb3 HD1 HB2 Hsm e0 e1 e2
    cases hsm : zsm l 100 with
    | false =>
      go_wp2_with fail; (with_reducible refine (Hck.out _).mono ?_); rintro e w4 ⟨rfl, hb4⟩
      go_wp2_with fail; (with_reducible refine (awake07 _).mono ?_); rintro e w5 ⟨rfl, hb5⟩
      go_wp2
      go_ret
      exact ⟨rfl, by rw [HQ.out]; exact HB0.out.trans ((bnext (bnext HB3.out hb4) hb5).mono HS0.out)⟩
    | true =>
      obtain ⟨hl100, hdk⟩ := zsm_of hsm
      have HDK := Lib.hid hdk
      have hn64 : n0 ≤ 64 := HD3.out.ok.n2
      obtain ⟨iB, hiB, hB0, hB1, hB2⟩ := info_parts infoSlB
      obtain ⟨iI, hiI, hI0, hI1, hI2⟩ := info_parts infoIntZ
      have HiB := Lib.hid hiB
      have HzB := Lib.hid hB0
      have H1B := Lib.hid hB1
      have H2B := Lib.hid hB2
      have HiI := Lib.hid hiI
      have HzI := Lib.hid hI0
      have H1I := Lib.hid hI1
      have H2I := Lib.hid hI2
      have hbz3 := HB3.out.size
      clear hsm hdk Hck hiB hB0 hB1 hB2 hiI hI0 hI1 hI2
      go_upto_region 4 with (fail)
      go_upto_region 5 with (at_make; go_loud (refine wpList_mk1 rfl (.tmp 34) (.tmp 34) 22 28 iB (.slice none 0 0) 24 Try.underlying22 HiB.out HzB.out H1B.out H2B.out (by decide) rfl rfl w0.heap.size n0 rfl rfl (by omega) hbz3 ?_); intro w4 ho4 hb4; have HL4 := Lib.hid ho4; have HD4 := Lib.hid (HD3.out.below hb4); have HB4 := Lib.hid (bnext HB3.out hb4); have e0 := cell_next f0 _ hb4; have hla := (World.ownsRow.lt ho4 _ rfl).2; have hbz4 := (bnext HB3.out hb4).size; clear ho4 hb4 f0 f1 f2)
      go_upto_region 6 with (at_make; go_loud (refine wpList_mk1 rfl (.tmp 37) (.tmp 37) 38 3 iI (.int .i64 0) 8 Try.underlying38 HiI.out HzI.out H1I.out H2I.out (by decide) rfl rfl w0.heap.size n0 rfl rfl (by omega) hbz4 ?_); intro w5 ho5 hb5; have HS5 := Lib.hid ho5; have HL5 := Lib.hid (row_past HL4.out hb5 (Nat.le_refl _)); have HD5 := Lib.hid (HD4.out.below hb5); have HB5 := Lib.hid (bnext HB4.out hb5); clear ho5 hb5 e0)
      have HNF : Hid (¬ F1 w3.heap.size ∧ ¬ F1 w4.heap.size) := Lib.hid ⟨fun hf => by have := (HD3.out.ge _ hf).2; omega, fun hf => by have := (HD4.out.ge _ hf).2; omega⟩
      generalize w3.heap.size = la at *
      generalize w4.heap.size = sa at *
      have hkm : KM w5 w0.heap.size la sa n0 F1 (List.replicate n0 (.slice none 0 0)) ((dv0 n0 s0 o0).A.map Zn.b) ((dv0 n0 s0 o0).A.map Zn.fl) := by
        have e1 : (dv0 n0 s0 o0).A.map Zn.b = List.replicate n0 [] := by simp [dv0]
        have e2 : (dv0 n0 s0 o0).A.map Zn.fl = List.replicate n0 0 := by simp [dv0]
        rw [e1, e2]
        refine ⟨HL5.out, by simpa [nvz] using HS5.out, by simp, fun i h1 h2 => .inl ⟨by simp, by simp⟩, fun i h1 k hk => ?_, ?_, ?_, ?_⟩
        · simp [Value.ownBlock] at hk
        · exact Nat.ne_of_lt hla
        · intro hf; exact HNF.out.1 hf
        · intro hf; exact HNF.out.2 hf
      have HKP : Hid (KpI w0 w5 p la sa n0 0) := Lib.hid ⟨_, F1, _, HD5.out, hkm, rfl, Nat.le_refl _, HB5.out⟩
      clear hkm HD3 HB3 HL4 HD4 HB4 HS5 HL5 HD5 HB5 hla hbz3 hbz4 HNF HiB HzB H1B H2B HiI HzI H1I H2I
      go_wp2
      go_loopw [41] (fun i wr => ∃ m : Nat, m ≤ l.length ∧ i = .int .i64 m ∧ KpI w0 wr p la sa n0 m) (fun i _ => l.length - (intOf i).toNat)
      case atStart => exact ⟨0, Nat.zero_le _, rfl, HKP.out⟩
      case round =>
        clear HKP
        obtain ⟨m, hm, rfl, D, F, vs, hD, hK, en, hdn, hbr⟩ := hrel
        have HD := Lib.hid hD
        have HK := Lib.hid hK
        have EN := Lib.hid en
        have HBR := Lib.hid hbr
        clear hD hK en
        by_cases hlt : m < l.length
        · obtain ⟨b, off, rfl, f0, f1, f2, f3, f4, f5, hok⟩ := H.out.cells hbr m hlt
          obtain ⟨hd400, hk70⟩ := HDK.out m hlt
          have HOK := Lib.hid hok
          clear hok hbr
          generalize l[m] = x at *
          obtain ⟨xk, xz, xa, xn, xda, xdc, xd, xka, xkc, xke⟩ := x
          simp only at f0 f1 f2 f3 f4 f5 hd400 hk70
          go_upto_region 9 with (fail)
          refine gen_wp (fun w' => w' = (wr.alloc (.cells #[.int .i64 xk, .int .i64 xz, .int .i64 xa, .int .i64 xn, .slice xda xd.length xdc, .slice xka xke.length xkc] 40))) rfl ?_
          rintro w4 hw4
          obtain ⟨c0, c1, c2, c3, c4, c5⟩ := cells6 wr (.int .i64 xk) (.int .i64 xz) (.int .i64 xa) (.int .i64 xn) (.slice xda xd.length xdc) (.slice xka xke.length xkc) 40
          have hb4 : Below wr.heap.size wr (wr.alloc (.cells #[.int .i64 xk, .int .i64 xz, .int .i64 xa, .int .i64 xn, .slice xda xd.length xdc, .slice xka xke.length xkc] 40)) := (Below.refl _ wr).alloc (Nat.le_refl _) _
          have hqb : wr.heap.size < (wr.alloc (.cells #[.int .i64 xk, .int .i64 xz, .int .i64 xa, .int .i64 xn, .slice xda xd.length xdc, .slice xka xke.length xkc] 40)).heap.size := by simp
          rw [← hw4] at c0 c1 c2 c3 c4 c5 hb4 hqb
          clear hw4
          have HFq : Hid (¬ F wr.heap.size ∧ la ≠ wr.heap.size ∧ sa ≠ wr.heap.size) := Lib.hid ⟨fun hf => by have := (HD.out.ge _ hf).2; omega, fun e => by have := HK.out.lal.2; omega, fun e => by have := HK.out.sal.2; omega⟩
          have HD4 := Lib.hid (HD.out.below hb4)
          have HK4 := Lib.hid (HK.out.below hb4)
          have HB4 := Lib.hid (bnext HBR.out hb4)
          have HRB4 : Hid (RB w4 (.slice xda xd.length xdc) xd) := Lib.hid (HOK.out.rb.below HB4.out)
          have HKZ4 : Hid (KZ w4 xka xke) := Lib.hid (HOK.out.kz.below HB4.out)
          have HKZ0 : Hid (KZ w0 xka xke) := Lib.hid HOK.out.kz
          have HNB := Lib.hid HOK.out.nb
          have HOR : Hid (RB w0 (.slice xda xd.length xdc) xd) := Lib.hid HOK.out.rb
          have e0 := cell_next g0 _ HB4.out
          have hvl : vs.length = n0 := HK4.out.vl
          have hlA : D.A.length = n0 := by have := HD4.out.lenA; rw [EN.out] at this; exact this
          have hdb : D.done < 4611686018427387904 := by omega
          clear hb4 f0 f1 f2 f3 f4 f5 HD HK HBR HOK
          generalize wr.heap.size = q4 at *
          have HCut : Hid (∀ D' W F' vs', DI W w0.heap.size p F' D' → KM W w0.heap.size la sa n0 F' vs' (D'.A.map Zn.b) (D'.A.map Zn.fl) → D'.done ≤ D.done + 1 ∧ D'.n = D.n → Below w0.heap.size w0 W → KpI w0 W p la sa n0 (m + 1)) := Lib.hid fun D' W F' vs' h1 h2 h3 h4 => ⟨D', F', vs', h1, h2, h3.2.trans EN.out, by have := h3.1; omega, h4⟩
          have h7 : xk = 1 ∨ xk = 3 ∨ xk = 4 ∨ xk = 5 ∨ xk = 6 ∨ xk = 7 ∨ (xk ≠ 1 ∧ xk ≠ 3 ∧ xk ≠ 4 ∧ xk ≠ 5 ∧ xk ≠ 6 ∧ xk ≠ 7) := by omega
          rcases h7 with rfl | rfl | rfl | rfl | rfl | rfl | ⟨k1, k3, k4, k5, k6, k7⟩
          · as_aux_lemma =>
              by_cases hzr : 0 ≤ xz ∧ xz < (n0 : Int)
              · obtain ⟨k, rfl⟩ := Int.eq_ofNat_of_zero_le hzr.1
                have hkn : k < n0 := by omega
                have hkA : k < D.A.length := by omega
                have hkv : k < vs.length := by omega
                have hkL : k < (D.A.map Zn.b).length := by rw [List.length_map]; exact hkA
                have Hca := Lib.hid (HD4.out.append (D' := (zapp D k xd).1) (er := (zapp D k xd).2) hdb k HRB4.out (by omega) rfl)
                obtain ⟨hm2, hm1⟩ := zapp_laid hkA HD4.out.lenA xd
                have Hdn := Lib.hid (zapp_dn D k xd)
                generalize zapp D k xd = zr at *
                have HM2 := Lib.hid hm2
                clear hm2 hzr
                go_wp2_with fail; (with_reducible refine (Hca.out).mono ?_); rintro e w6 ⟨rfl, ho6⟩
                have hb6 := ho6.below HD4.out
                have k1 := cell_blkz (j := 1) (ho6.2.block q4 hqb HFq.out.1)
                have k4 := cell_blkz (j := 4) (ho6.2.block q4 hqb HFq.out.1)
                rw [c1] at k1
                rw [c4] at k4
                have HRB6 : Hid (RB w6 (.slice xda xd.length xdc) xd) := Lib.hid (HOR.out.below (HB4.out.trans hb6))
                have g6 := cell_next g0 _ (HB4.out.trans hb6)
                obtain ⟨⟨F6, hD6, hF6⟩, hc6⟩ := ho6
                have hK6 := HK4.out.dev hc6 hF6
                have HB6 := Lib.hid (HB4.out.trans hb6)
                have HD6 := Lib.hid hD6
                have HK6 := Lib.hid hK6
                obtain ⟨av, cv, hve, hcv, hav⟩ := hK6.lv' k hkv hkL
                obtain ⟨er0, er1⟩ := hK6.lcell k hkv
                rw [hve] at er0
                have hbk : (D.A.map Zn.b)[k] = D.A[k].b := List.getElem_map _
                rw [hbk] at er0 hcv hav hve
                have Hve := Lib.hid hve
                have Hbk := Lib.hid hbk
                have Hav := Lib.hid hav
                have hbl64 : D.A[k].b.length ≤ 65536 := by
                  have h1 := (HD4.out.ok.zs _ (List.getElem_mem hkA)).len
                  have h2 := HD4.out.ok.s2
                  omega
                have Hpt : Hid (∀ W, Below w6.heap.size w6 W → Calls Try.prog 12 #[.pointer (some ⟨p, 0, none⟩), .int .i64 k] W fun e w' => e = .returned (.int .i64 (zpt zr.1 k)) ∧ Below W.heap.size W w') := Lib.hid fun W hW => ((HD6.out.below hW).pointer k).mono fun e w' ⟨h1, h2⟩ => ⟨h1, by rw [← h2]; exact Below.refl _ _⟩
                have Bq := bnext_grow (Below.refl w6.heap.size w6)
                have dk1 := cell_next k1
                have dk4 := cell_next k4
                have dg6 := cell_next g6
                have der := cell_next er0
                clear hD6 hF6 hc6 hK6 hb6 hve hbk hav c0 c1 c2 c3 c4 c5 e0 Hca
                rcases hm1 with ⟨hmb, hp1, hee⟩ | ⟨hsame, hp1, hne⟩
                · have HMB := Lib.hid hmb
                  have hp2 : zpt zr.1 k = (D.A[k].b.length : Int) + (xd.length : Int) := by rw [hp1]; exact Int.natCast_add _ _
                  rw [hp2] at Hpt
                  clear hmb hp1 hp2
                  generalize hbb : D.A[k].b = bk at *
                  have HBB := Lib.hid hbb
                  clear hbb
                  go_upto_region 12 with (fail)
                  go_cut [89] from 55 to 89 (fun t wx => t = .bool true ∧ Below w6.heap.size w6 wx)
                  case first =>
                    rcases hee with he | he
                    · have hef : (zr.2 == 0) = true := by rw [beq_iff_eq]; exact he
                      clear he
                      refine wp_region_quiet_below (by kernel_rfl) (by kernel_rfl) ?_; (repeat (go_big_quiet_step ((go_at_call 12; (with_reducible refine Calls.regrown_of (Hpt.out _ (Bq _ _))))))); refine wpQuiet_nil ?_; rintro _ ⟨pq, rfl⟩
                      go_wp2
                      go_meet
                      exact ⟨rfl, Bq _ _⟩
                    · have hef : (zr.2 == 0) = false := by rw [he]; rfl
                      have hef2 : (zr.2 == 74) = true := by rw [beq_iff_eq]; exact he
                      clear he
                      refine wp_region_quiet_below (by kernel_rfl) (by kernel_rfl) ?_; (repeat (go_big_quiet_step ((go_at_call 12; (with_reducible refine Calls.regrown_of (Hpt.out _ (Bq _ _))))))); refine wpQuiet_nil ?_; rintro _ ⟨pq, rfl⟩
                      go_wp2
                      go_meet
                      exact ⟨rfl, Bq _ _⟩
                  case rest =>
                    obtain ⟨rfl, hb7⟩ := hcut
                    have j1 := dk1 _ hb7
                    have j4 := dk4 _ hb7
                    have jr := der _ hb7
                    have HK7 := Lib.hid (HK6.out.below hb7)
                    have HD7 := Lib.hid (HD6.out.below hb7)
                    have HB7 := Lib.hid (bnext HB6.out hb7)
                    have HR7 := Lib.hid (HRB6.out.below hb7).drew
                    have jf := (HK7.out.lcell k hkv).2
                    clear dk1 dk4 dg6 der Bq Hpt k1 k4 g6 er0 er1 hb7 HD6 HK6 HB6 HRB6 hee
                    generalize wc = w7 at *
                    have hlen7 : bk.length + xd.length ≤ 1000000 := by omega
                    have hLV : LV w7.drew (.slice av bk.length bk.length) bk := by
                      have h1 := (HK7.out.below (Below.refl _ w7).drew).lv k hkv hkL
                      rw [Hve.out, Hbk.out] at h1
                      rcases h1 with ⟨e1, e2⟩ | ⟨b', off', c', e1, e2, e3, e4⟩
                      · simp only [Value.slice.injEq] at e1
                        obtain ⟨rfl, _, _⟩ := e1
                        subst e2
                        exact .inl ⟨rfl, rfl⟩
                      · simp only [Value.slice.injEq] at e1
                        obtain ⟨rfl, _, rfl⟩ := e1
                        exact .inr ⟨b', off', bk.length, rfl, Nat.le_refl _, Nat.le_trans e2 e3, rb_full e4⟩
                    have HLV := Lib.hid hLV
                    have HY : Hid (∀ v' W, LV W v' (bk ++ xd) → w7.drew.grownBy W none → ((v' = .slice av bk.length bk.length ∧ xd = []) ∨ (xd ≠ [] ∧ ∀ y, v'.ownBlock = some y → w7.drew.heap.size ≤ y)) → (∃ a2 n2 c2, v' = .slice a2 n2 c2) ∧ W.cell? ⟨la, k, none⟩ = some (.slice av bk.length cv) ∧ W.frozen? ⟨la, k, none⟩ = false ∧ (W.cell? ⟨q4, 1, none⟩ = some (.int .i64 k) ∧ W.cell? ⟨q4, 4, none⟩ = some (.slice xda xd.length xdc)) ∧ ((W.setCell ⟨la, k, none⟩ v').cell? ⟨q4, 1, none⟩ = some (.int .i64 k) ∧ (W.setCell ⟨la, k, none⟩ v').cell? ⟨q4, 4, none⟩ = some (.slice xda xd.length xdc)) ∧ KpI w0 (W.setCell ⟨la, k, none⟩ v') p la sa n0 (m + 1)) := Lib.hid fun v' W hv hg hor => by
                      have hbW : Below w7.heap.size w7 W := bnext (Below.refl _ w7).drew ⟨hg.os, hg.tape, hg.output, hg.size, fun y hy => hg.block y hy (by simp)⟩
                      have hKW := HK7.out.below hbW
                      have hDW := HD7.out.below hbW
                      obtain ⟨a0, a1⟩ := hKW.lcell k hkv
                      rw [Hve.out] at a0
                      have hap : ∀ y, v'.ownBlock = some y → y < W.heap.size ∧ y ≠ la ∧ y ≠ sa ∧ ¬ F6 y := fun y hy => by
                        rcases hor with ⟨rfl, _⟩ | ⟨hx, hfr⟩
                        · have := hKW.ap k hkv y (by rw [Hve.out]; cases av with | none => (simp [Value.ownBlock] at hy) | some ad => exact hy)
                          exact this
                        · have h1 := hfr y hy
                          have h2 : w7.heap.size ≤ y := h1
                          refine ⟨?_, fun e => ?_, fun e => ?_, fun hf => ?_⟩
                          · exact hv.rb.lt0 (by rw [List.length_append]; have := List.length_pos_iff.2 hx; omega) y hy
                          · have := HK7.out.lal.2; omega
                          · have := HK7.out.sal.2; omega
                          · have := (HD7.out.ge _ hf).2; omega
                      have hKs := hKW.setL k v' (bk ++ xd) hv hap
                      have hDs := hDW.chg (Chg.set W la k v') (fun y hy e => hKW.fl (by rw [← e]; exact hy))
                      have jj1 := cell_next j1 _ hbW
                      have jj4 := cell_next j4 _ hbW
                      have jn : ∀ j, (W.setCell ⟨la, k, none⟩ v').cell? ⟨q4, j, none⟩ = W.cell? ⟨q4, j, none⟩ := fun j => cell_blkz ((Chg.set W la k v').block q4 (World.block_lt_of_cell? W _ jj1) (fun e => HFq.out.2.1 e.symm))
                      refine ⟨?_, a0, a1, ⟨jj1, jj4⟩, ⟨(jn 1).trans jj1, (jn 4).trans jj4⟩, ?_⟩
                      · rcases hv with ⟨rfl, _⟩ | ⟨b', off', c', rfl, _⟩
                        · exact ⟨_, _, _, rfl⟩
                        · exact ⟨_, _, _, rfl⟩
                      · refine HCut.out zr.1 _ F6 (vs.set k v') hDs ?_ Hdn.out ((bnext HB7.out hbW).setCell (p := ⟨la, k, none⟩) hKW.lal.1 _)
                        rw [HMB.out, HM2.out]
                        exact hKs
                    have hn1 := HFq.out.2.1
                    have hn5 : ¬ q4 = la := fun e => hn1 e.symm
                    clear hLV
                    rcases Hav.out with ⟨rfl, rfl, hbn⟩ | ⟨b', off', rfl, hcm⟩
                    · as_aux_lemma =>
                        subst hbn
                        go_upto_region 13 with (fail)
                        have jd1 : w7.drew.cell? ⟨q4, 1, none⟩ = some (.int .i64 k) := j1
                        have jd4 : w7.drew.cell? ⟨q4, 4, none⟩ = some (.slice xda xd.length xdc) := j4
                        have jdr : w7.drew.cell? ⟨la, k, none⟩ = _ := jr
                        refine wp_region_held_drew (S := fun w' => w'.cell? ⟨q4, 1, none⟩ = some (.int .i64 k) ∧ w'.cell? ⟨q4, 4, none⟩ = some (.slice xda xd.length xdc)) (by kernel_rfl) ?_ (fun hHeld => ?_)
                        · exact ⟨jd1, jd4⟩
                        refine wpAnyH_take (i := 0) (oi := ⟨some 90, _, _, _, _, _⟩) (v := ?_) rfl (by kernel_rfl) (by kernel_rfl) (by kernel_rfl) (fun _ _ _ h => h) (Or.inl ⟨by rfl, ?_⟩) (by assumption) ?_
                        rotate_left
                        · intro w hSw
                          (try dsimp only at hSw)
                          go_simp
                          (try with_reducible rfl)
                        (try simp only [Act.put, List.setIfInBounds_toArray, List.set_cons_zero, List.set_cons_succ])
                        refine wpAnyH_take (i := 1) (oi := ⟨some 91, _, _, _, _, _⟩) (v := ?_) rfl (by kernel_rfl) (by kernel_rfl) (by kernel_rfl) (fun _ _ _ h => h) (Or.inl ⟨by rfl, ?_⟩) (by assumption) ?_
                        rotate_left
                        · intro w hSw
                          (try dsimp only at hSw)
                          go_simp
                          (try with_reducible rfl)
                        (try simp only [Act.put, List.setIfInBounds_toArray, List.set_cons_zero, List.set_cons_succ])
                        refine wpAnyH_take (i := 2) (oi := ⟨some 92, _, _, _, _, _⟩) (v := ?_) rfl (by kernel_rfl) (by kernel_rfl) (by kernel_rfl) (fun _ _ _ h => h) (Or.inl ⟨by rfl, ?_⟩) (by assumption) ?_
                        rotate_left
                        · intro w hSw
                          (try dsimp only at hSw)
                          go_simp
                          (try with_reducible rfl)
                        (try simp only [Act.put, List.setIfInBounds_toArray, List.set_cons_zero, List.set_cons_succ])
                        refine wpAnyH_take (i := 3) (oi := ⟨some 93, _, _, _, _, _⟩) (v := ?_) rfl (by kernel_rfl) (by kernel_rfl) (by kernel_rfl) (fun _ _ _ h => h) (Or.inl ⟨by rfl, ?_⟩) (by assumption) ?_
                        rotate_left
                        · intro w hSw
                          (try dsimp only at hSw)
                          go_simp
                          (try with_reducible rfl)
                        (try simp only [Act.put, List.setIfInBounds_toArray, List.set_cons_zero, List.set_cons_succ])
                        refine wpAnyH_take (i := 4) (oi := ⟨some 94, _, _, _, _, _⟩) (v := ?_) rfl (by kernel_rfl) (by kernel_rfl) (by kernel_rfl) (fun _ _ _ h => h) (Or.inl ⟨by rfl, ?_⟩) (by assumption) ?_
                        rotate_left
                        · intro w hSw
                          (try dsimp only at hSw)
                          go_simp
                          (try with_reducible rfl)
                        (try simp only [Act.put, List.setIfInBounds_toArray, List.set_cons_zero, List.set_cons_succ])
                        refine wpAnyH_take (i := 5) (oi := ⟨some 95, _, _, _, _, _⟩) (v := ?_) rfl (by kernel_rfl) (by kernel_rfl) (by kernel_rfl) (fun _ _ _ h => h) (Or.inl ⟨by rfl, ?_⟩) (by assumption) ?_
                        rotate_left
                        · intro w hSw
                          (try dsimp only at hSw)
                          go_simp
                          (try with_reducible rfl)
                        (try simp only [Act.put, List.setIfInBounds_toArray, List.set_cons_zero, List.set_cons_succ])
                        refine wpAnyH_take (i := 6) (oi := ⟨some 96, _, _, _, _, _⟩) (v := ?_) rfl (by kernel_rfl) (by kernel_rfl) (by kernel_rfl) (fun _ _ _ h => h) (Or.inl ⟨by rfl, ?_⟩) (by assumption) ?_
                        rotate_left
                        · intro w hSw
                          (try dsimp only at hSw)
                          go_simp
                          (try with_reducible rfl)
                        (try simp only [Act.put, List.setIfInBounds_toArray, List.set_cons_zero, List.set_cons_succ])
                        refine wpAnyH_take (i := 8) (oi := ⟨some 98, _, _, _, _, _⟩) (v := ?_) rfl (by kernel_rfl) (by kernel_rfl) (by kernel_rfl) (fun _ _ _ h => h) (Or.inl ⟨by rfl, ?_⟩) (by assumption) ?_
                        rotate_left
                        · intro w hSw
                          (try dsimp only at hSw)
                          go_simp
                          (try with_reducible rfl)
                        (try simp only [Act.put, List.setIfInBounds_toArray, List.set_cons_zero, List.set_cons_succ])
                        refine wpAnyH_take (i := 9) (oi := ⟨some 99, _, _, _, _, _⟩) (v := ?_) rfl (by kernel_rfl) (by kernel_rfl) (by kernel_rfl) (fun _ _ _ h => h) (Or.inl ⟨by rfl, ?_⟩) (by assumption) ?_
                        rotate_left
                        · intro w hSw
                          (try dsimp only at hSw)
                          go_simp
                          (try with_reducible rfl)
                        (try simp only [Act.put, List.setIfInBounds_toArray, List.set_cons_zero, List.set_cons_succ])
                        refine wpAnyH_take (i := 10) (oi := ⟨some 100, _, _, _, _, _⟩) (v := ?_) rfl (by kernel_rfl) (by kernel_rfl) (by kernel_rfl) (fun _ _ _ h => h) (Or.inl ⟨by rfl, ?_⟩) (by assumption) ?_
                        rotate_left
                        · intro w hSw
                          (try dsimp only at hSw)
                          go_simp
                          (try with_reducible rfl)
                        (try simp only [Act.put, List.setIfInBounds_toArray, List.set_cons_zero, List.set_cons_succ])
                        refine wpAnyH_take (i := 11) (oi := ⟨some 101, _, _, _, _, _⟩) (v := ?_) rfl (by kernel_rfl) (by kernel_rfl) (by kernel_rfl) (fun _ _ _ h => h) (Or.inl ⟨by rfl, ?_⟩) (by assumption) ?_
                        rotate_left
                        · intro w hSw
                          (try dsimp only at hSw)
                          go_simp
                          (try with_reducible rfl)
                        (try simp only [Act.put, List.setIfInBounds_toArray, List.set_cons_zero, List.set_cons_succ])
                        refine wpAnyH_take (i := 14) (oi := ⟨some 104, _, _, _, _, _⟩) (v := ?_) rfl (by kernel_rfl) (by kernel_rfl) (by kernel_rfl) (fun _ _ _ h => h) (Or.inl ⟨by rfl, ?_⟩) (by assumption) ?_
                        rotate_left
                        · intro w hSw
                          (try dsimp only at hSw)
                          go_simp
                          (try with_reducible rfl)
                        (try simp only [Act.put, List.setIfInBounds_toArray, List.set_cons_zero, List.set_cons_succ])
                        refine wpAnyH_take (i := 15) (oi := ⟨some 105, _, _, _, _, _⟩) (v := ?_) rfl (by kernel_rfl) (by kernel_rfl) (by kernel_rfl) (fun _ _ _ h => h) (Or.inl ⟨by rfl, ?_⟩) (by assumption) ?_
                        rotate_left
                        · intro w hSw
                          (try dsimp only at hSw)
                          go_simp
                          (try with_reducible rfl)
                        (try simp only [Act.put, List.setIfInBounds_toArray, List.set_cons_zero, List.set_cons_succ])
                        refine wpAnyH_take (i := 16) (oi := ⟨some 106, _, _, _, _, _⟩) (v := ?_) rfl (by kernel_rfl) (by kernel_rfl) (by kernel_rfl) (fun _ _ _ h => h) (Or.inl ⟨by rfl, ?_⟩) (by assumption) ?_
                        rotate_left
                        · intro w hSw
                          (try dsimp only at hSw)
                          go_simp
                          (try with_reducible rfl)
                        (try simp only [Act.put, List.setIfInBounds_toArray, List.set_cons_zero, List.set_cons_succ])
                        refine wpAnyH_take (i := 17) (oi := ⟨some 107, _, _, _, _, _⟩) (v := ?_) rfl (by kernel_rfl) (by kernel_rfl) (by kernel_rfl) (fun _ _ _ h => h) (Or.inl ⟨by rfl, ?_⟩) (by assumption) ?_
                        rotate_left
                        · intro w hSw
                          (try dsimp only at hSw)
                          go_simp
                          (try with_reducible rfl)
                        (try simp only [Act.put, List.setIfInBounds_toArray, List.set_cons_zero, List.set_cons_succ])
                        refine wpAnyH_take (i := 21) (oi := ⟨some 111, _, _, _, _, _⟩) (v := ?_) rfl (by kernel_rfl) (by kernel_rfl) (by kernel_rfl) (fun _ _ _ h => h) (Or.inl ⟨by rfl, ?_⟩) (by assumption) ?_
                        rotate_left
                        · intro w hSw
                          (try dsimp only at hSw)
                          go_simp
                          (try with_reducible rfl)
                        (try simp only [Act.put, List.setIfInBounds_toArray, List.set_cons_zero, List.set_cons_succ])
                        refine wpAnyH_take (i := 22) (oi := ⟨some 112, _, _, _, _, _⟩) (v := ?_) rfl (by kernel_rfl) (by kernel_rfl) (by kernel_rfl) (fun _ _ _ h => h) (Or.inl ⟨by rfl, ?_⟩) (by assumption) ?_
                        rotate_left
                        · intro w hSw
                          (try dsimp only at hSw)
                          go_simp
                          (try with_reducible rfl)
                        (try simp only [Act.put, List.setIfInBounds_toArray, List.set_cons_zero, List.set_cons_succ])
                        refine wpAnyH_ready (rs := [7, 12, 18]) (by kernel_rfl) (by simp) ?_
                        refine AllReadyH.cons (o := ⟨some 97, _, _, _, _, _⟩) rfl (fun K hK => ?_) ?_
                        · go_simp
                          refine hK.out _ _ ?_ (fun hHeld => ?_)
                          · exact ⟨jd1, jd4⟩
                          clear hK K
                          (try simp only [Act.put, List.setIfInBounds_toArray, List.set_cons_zero, List.set_cons_succ])
                          refine wpAnyH_ready (rs := [12, 18]) (by kernel_rfl) (by simp) ?_
                          refine AllReadyH.cons (o := ⟨some 102, _, _, _, _, _⟩) rfl (fun K hK => ?_) ?_
                          · go_simp
                            refine hK.out _ _ ?_ (fun hHeld => ?_)
                            · exact ⟨jd1, jd4⟩
                            clear hK K
                            (try simp only [Act.put, List.setIfInBounds_toArray, List.set_cons_zero, List.set_cons_succ])
                            refine wpAnyH_take (i := 13) (oi := ⟨some 103, _, _, _, _, _⟩) (v := ?_) rfl (by kernel_rfl) (by kernel_rfl) (by kernel_rfl) (fun _ _ _ h => h) (Or.inl ⟨by rfl, ?_⟩) (by assumption) ?_
                            rotate_left
                            · intro w hSw
                              (try dsimp only at hSw)
                              go_simp
                              (try with_reducible rfl)
                            (try simp only [Act.put, List.setIfInBounds_toArray, List.set_cons_zero, List.set_cons_succ])
                            refine wpAnyH_ready (rs := [18]) (by kernel_rfl) (by simp) ?_
                            refine AllReadyH.cons (o := ⟨some 108, _, _, _, _, _⟩) rfl (fun K hK => ?_) ?_
                            · go_simp
                              refine hK.out _ _ ?_ (fun hHeld => ?_)
                              · exact ⟨jd1, jd4⟩
                              clear hK K
                              (try simp only [Act.put, List.setIfInBounds_toArray, List.set_cons_zero, List.set_cons_succ])
                              refine wpAnyH_take (i := 19) (oi := ⟨some 109, _, _, _, _, _⟩) (v := ?_) rfl (by kernel_rfl) (by kernel_rfl) (by kernel_rfl) (fun _ _ _ h => h) (Or.inl ⟨by rfl, ?_⟩) (by assumption) ?_
                              rotate_left
                              · intro w hSw
                                (try dsimp only at hSw)
                                go_simp
                                (try with_reducible rfl)
                              (try simp only [Act.put, List.setIfInBounds_toArray, List.set_cons_zero, List.set_cons_succ])
                              refine wpAnyH_take (i := 20) (oi := ⟨some 110, _, _, _, _, _⟩) (v := ?_) rfl (by kernel_rfl) (by kernel_rfl) (by kernel_rfl) (fun _ _ _ h => h) (Or.inl ⟨by rfl, ?_⟩) (by assumption) ?_
                              rotate_left
                              · intro w hSw
                                (try dsimp only at hSw)
                                go_simp
                                (try with_reducible rfl)
                              (try simp only [Act.put, List.setIfInBounds_toArray, List.set_cons_zero, List.set_cons_succ])
                              refine wpAnyH_ready (rs := [23]) (by kernel_rfl) (by simp) ?_
                              refine AllReadyH.cons (o := ⟨some 113, _, _, _, _, _⟩) rfl (fun K hK => ?_) ?_
                              · refine step_app_full (by rfl) (.tmp 110) (.tmp 112) (by rfl) none [] xd _ (by rfl) (by rfl) HLV.out HR7.out hlen7 ?_
                                intro v2 w8 hv2 hg2 hor2
                                obtain ⟨⟨a2, n2, c2, rfl⟩, y0, y1, hS8, hS9, hy⟩ := HY.out _ _ hv2 hg2 hor2
                                have HFin := Lib.hid hy
                                clear hv2 hg2 hor2 hy
                                refine hK.out _ _ ?_ (fun hHeld => ?_)
                                · exact hS8
                                clear hK K
                                (try simp only [Act.put, List.setIfInBounds_toArray, List.set_cons_zero, List.set_cons_succ])
                                refine wpAnyH_take (i := 24) (oi := ⟨some 114, _, _, _, _, _⟩) (v := ?_) rfl (by kernel_rfl) (by kernel_rfl) (by kernel_rfl) (fun _ _ _ h => h) (Or.inl ⟨by rfl, ?_⟩) (by assumption) ?_
                                rotate_left
                                · intro w hSw
                                  (try dsimp only at hSw)
                                  go_simp
                                  (try with_reducible rfl)
                                (try simp only [Act.put, List.setIfInBounds_toArray, List.set_cons_zero, List.set_cons_succ])
                                refine wpAnyH_ready (rs := [25]) (by kernel_rfl) (by simp) ?_
                                refine AllReadyH.cons rfl (fun K hK => ?_) ?_
                                · go_simp
                                  refine hK.out _ _ ?_ (fun hHeld => ?_)
                                  · exact hS9
                                  clear hK K
                                  (try simp only [Act.put, List.setIfInBounds_toArray, List.set_cons_zero, List.set_cons_succ])
                                  refine wpAnyH_done (by kernel_rfl) ?_ _
                                  go_wp2
                                  go_roundw
                                  case rel => exact ⟨m + 1, by omega, by go_num, HFin.out⟩
                                  case measure => simp [intOf]; omega
                                · exact AllReadyH.nil
                              · exact AllReadyH.nil
                            · exact AllReadyH.nil
                          · refine AllReadyH.cons (o := ⟨some 108, _, _, _, _, _⟩) rfl (fun K hK => ?_) ?_
                            · go_simp
                              refine hK.out _ _ ?_ (fun hHeld => ?_)
                              · exact ⟨jd1, jd4⟩
                              clear hK K
                              (try simp only [Act.put, List.setIfInBounds_toArray, List.set_cons_zero, List.set_cons_succ])
                              refine wpAnyH_take (i := 19) (oi := ⟨some 109, _, _, _, _, _⟩) (v := ?_) rfl (by kernel_rfl) (by kernel_rfl) (by kernel_rfl) (fun _ _ _ h => h) (Or.inl ⟨by rfl, ?_⟩) (by assumption) ?_
                              rotate_left
                              · intro w hSw
                                (try dsimp only at hSw)
                                go_simp
                                (try with_reducible rfl)
                              (try simp only [Act.put, List.setIfInBounds_toArray, List.set_cons_zero, List.set_cons_succ])
                              refine wpAnyH_ready (rs := [12]) (by kernel_rfl) (by simp) ?_
                              refine AllReadyH.cons (o := ⟨some 102, _, _, _, _, _⟩) rfl (fun K hK => ?_) ?_
                              · go_simp
                                refine hK.out _ _ ?_ (fun hHeld => ?_)
                                · exact ⟨jd1, jd4⟩
                                clear hK K
                                (try simp only [Act.put, List.setIfInBounds_toArray, List.set_cons_zero, List.set_cons_succ])
                                refine wpAnyH_take (i := 13) (oi := ⟨some 103, _, _, _, _, _⟩) (v := ?_) rfl (by kernel_rfl) (by kernel_rfl) (by kernel_rfl) (fun _ _ _ h => h) (Or.inl ⟨by rfl, ?_⟩) (by assumption) ?_
                                rotate_left
                                · intro w hSw
                                  (try dsimp only at hSw)
                                  go_simp
                                  (try with_reducible rfl)
                                (try simp only [Act.put, List.setIfInBounds_toArray, List.set_cons_zero, List.set_cons_succ])
                                refine wpAnyH_take (i := 20) (oi := ⟨some 110, _, _, _, _, _⟩) (v := ?_) rfl (by kernel_rfl) (by kernel_rfl) (by kernel_rfl) (fun _ _ _ h => h) (Or.inl ⟨by rfl, ?_⟩) (by assumption) ?_
                                rotate_left
                                · intro w hSw
                                  (try dsimp only at hSw)
                                  go_simp
                                  (try with_reducible rfl)
                                (try simp only [Act.put, List.setIfInBounds_toArray, List.set_cons_zero, List.set_cons_succ])
                                refine wpAnyH_ready (rs := [23]) (by kernel_rfl) (by simp) ?_
                                refine AllReadyH.cons (o := ⟨some 113, _, _, _, _, _⟩) rfl (fun K hK => ?_) ?_
                                · refine step_app_full (by rfl) (.tmp 110) (.tmp 112) (by rfl) none [] xd _ (by rfl) (by rfl) HLV.out HR7.out hlen7 ?_
                                  intro v2 w8 hv2 hg2 hor2
                                  obtain ⟨⟨a2, n2, c2, rfl⟩, y0, y1, hS8, hS9, hy⟩ := HY.out _ _ hv2 hg2 hor2
                                  have HFin := Lib.hid hy
                                  clear hv2 hg2 hor2 hy
                                  refine hK.out _ _ ?_ (fun hHeld => ?_)
                                  · exact hS8
                                  clear hK K
                                  (try simp only [Act.put, List.setIfInBounds_toArray, List.set_cons_zero, List.set_cons_succ])
                                  refine wpAnyH_take (i := 24) (oi := ⟨some 114, _, _, _, _, _⟩) (v := ?_) rfl (by kernel_rfl) (by kernel_rfl) (by kernel_rfl) (fun _ _ _ h => h) (Or.inl ⟨by rfl, ?_⟩) (by assumption) ?_
                                  rotate_left
                                  · intro w hSw
                                    (try dsimp only at hSw)
                                    go_simp
                                    (try with_reducible rfl)
                                  (try simp only [Act.put, List.setIfInBounds_toArray, List.set_cons_zero, List.set_cons_succ])
                                  refine wpAnyH_ready (rs := [25]) (by kernel_rfl) (by simp) ?_
                                  refine AllReadyH.cons rfl (fun K hK => ?_) ?_
                                  · go_simp
                                    refine hK.out _ _ ?_ (fun hHeld => ?_)
                                    · exact hS9
                                    clear hK K
                                    (try simp only [Act.put, List.setIfInBounds_toArray, List.set_cons_zero, List.set_cons_succ])
                                    refine wpAnyH_done (by kernel_rfl) ?_ _
                                    go_wp2
                                    go_roundw
                                    case rel => exact ⟨m + 1, by omega, by go_num, HFin.out⟩
                                    case measure => simp [intOf]; omega
                                  · exact AllReadyH.nil
                                · exact AllReadyH.nil
                              · exact AllReadyH.nil
                            · exact AllReadyH.nil
                        · refine AllReadyH.cons (o := ⟨some 102, _, _, _, _, _⟩) rfl (fun K hK => ?_) ?_
                          · go_simp
                            refine hK.out _ _ ?_ (fun hHeld => ?_)
                            · exact ⟨jd1, jd4⟩
                            clear hK K
                            (try simp only [Act.put, List.setIfInBounds_toArray, List.set_cons_zero, List.set_cons_succ])
                            refine wpAnyH_take (i := 13) (oi := ⟨some 103, _, _, _, _, _⟩) (v := ?_) rfl (by kernel_rfl) (by kernel_rfl) (by kernel_rfl) (fun _ _ _ h => h) (Or.inl ⟨by rfl, ?_⟩) (by assumption) ?_
                            rotate_left
                            · intro w hSw
                              (try dsimp only at hSw)
                              go_simp
                              (try with_reducible rfl)
                            (try simp only [Act.put, List.setIfInBounds_toArray, List.set_cons_zero, List.set_cons_succ])
                            refine wpAnyH_ready (rs := [7, 18]) (by kernel_rfl) (by simp) ?_
                            refine AllReadyH.cons (o := ⟨some 97, _, _, _, _, _⟩) rfl (fun K hK => ?_) ?_
                            · go_simp
                              refine hK.out _ _ ?_ (fun hHeld => ?_)
                              · exact ⟨jd1, jd4⟩
                              clear hK K
                              (try simp only [Act.put, List.setIfInBounds_toArray, List.set_cons_zero, List.set_cons_succ])
                              refine wpAnyH_ready (rs := [18]) (by kernel_rfl) (by simp) ?_
                              refine AllReadyH.cons (o := ⟨some 108, _, _, _, _, _⟩) rfl (fun K hK => ?_) ?_
                              · go_simp
                                refine hK.out _ _ ?_ (fun hHeld => ?_)
                                · exact ⟨jd1, jd4⟩
                                clear hK K
                                (try simp only [Act.put, List.setIfInBounds_toArray, List.set_cons_zero, List.set_cons_succ])
                                refine wpAnyH_take (i := 19) (oi := ⟨some 109, _, _, _, _, _⟩) (v := ?_) rfl (by kernel_rfl) (by kernel_rfl) (by kernel_rfl) (fun _ _ _ h => h) (Or.inl ⟨by rfl, ?_⟩) (by assumption) ?_
                                rotate_left
                                · intro w hSw
                                  (try dsimp only at hSw)
                                  go_simp
                                  (try with_reducible rfl)
                                (try simp only [Act.put, List.setIfInBounds_toArray, List.set_cons_zero, List.set_cons_succ])
                                refine wpAnyH_take (i := 20) (oi := ⟨some 110, _, _, _, _, _⟩) (v := ?_) rfl (by kernel_rfl) (by kernel_rfl) (by kernel_rfl) (fun _ _ _ h => h) (Or.inl ⟨by rfl, ?_⟩) (by assumption) ?_
                                rotate_left
                                · intro w hSw
                                  (try dsimp only at hSw)
                                  go_simp
                                  (try with_reducible rfl)
                                (try simp only [Act.put, List.setIfInBounds_toArray, List.set_cons_zero, List.set_cons_succ])
                                refine wpAnyH_ready (rs := [23]) (by kernel_rfl) (by simp) ?_
                                refine AllReadyH.cons (o := ⟨some 113, _, _, _, _, _⟩) rfl (fun K hK => ?_) ?_
                                · refine step_app_full (by rfl) (.tmp 110) (.tmp 112) (by rfl) none [] xd _ (by rfl) (by rfl) HLV.out HR7.out hlen7 ?_
                                  intro v2 w8 hv2 hg2 hor2
                                  obtain ⟨⟨a2, n2, c2, rfl⟩, y0, y1, hS8, hS9, hy⟩ := HY.out _ _ hv2 hg2 hor2
                                  have HFin := Lib.hid hy
                                  clear hv2 hg2 hor2 hy
                                  refine hK.out _ _ ?_ (fun hHeld => ?_)
                                  · exact hS8
                                  clear hK K
                                  (try simp only [Act.put, List.setIfInBounds_toArray, List.set_cons_zero, List.set_cons_succ])
                                  refine wpAnyH_take (i := 24) (oi := ⟨some 114, _, _, _, _, _⟩) (v := ?_) rfl (by kernel_rfl) (by kernel_rfl) (by kernel_rfl) (fun _ _ _ h => h) (Or.inl ⟨by rfl, ?_⟩) (by assumption) ?_
                                  rotate_left
                                  · intro w hSw
                                    (try dsimp only at hSw)
                                    go_simp
                                    (try with_reducible rfl)
                                  (try simp only [Act.put, List.setIfInBounds_toArray, List.set_cons_zero, List.set_cons_succ])
                                  refine wpAnyH_ready (rs := [25]) (by kernel_rfl) (by simp) ?_
                                  refine AllReadyH.cons rfl (fun K hK => ?_) ?_
                                  · go_simp
                                    refine hK.out _ _ ?_ (fun hHeld => ?_)
                                    · exact hS9
                                    clear hK K
                                    (try simp only [Act.put, List.setIfInBounds_toArray, List.set_cons_zero, List.set_cons_succ])
                                    refine wpAnyH_done (by kernel_rfl) ?_ _
                                    go_wp2
                                    go_roundw
                                    case rel => exact ⟨m + 1, by omega, by go_num, HFin.out⟩
                                    case measure => simp [intOf]; omega
                                  · exact AllReadyH.nil
                                · exact AllReadyH.nil
                              · exact AllReadyH.nil
                            · refine AllReadyH.cons (o := ⟨some 108, _, _, _, _, _⟩) rfl (fun K hK => ?_) ?_
                              · go_simp
                                refine hK.out _ _ ?_ (fun hHeld => ?_)
                                · exact ⟨jd1, jd4⟩
                                clear hK K
                                (try simp only [Act.put, List.setIfInBounds_toArray, List.set_cons_zero, List.set_cons_succ])
                                refine wpAnyH_take (i := 19) (oi := ⟨some 109, _, _, _, _, _⟩) (v := ?_) rfl (by kernel_rfl) (by kernel_rfl) (by kernel_rfl) (fun _ _ _ h => h) (Or.inl ⟨by rfl, ?_⟩) (by assumption) ?_
                                rotate_left
                                · intro w hSw
                                  (try dsimp only at hSw)
                                  go_simp
                                  (try with_reducible rfl)
                                (try simp only [Act.put, List.setIfInBounds_toArray, List.set_cons_zero, List.set_cons_succ])
                                refine wpAnyH_ready (rs := [7]) (by kernel_rfl) (by simp) ?_
                                refine AllReadyH.cons (o := ⟨some 97, _, _, _, _, _⟩) rfl (fun K hK => ?_) ?_
                                · go_simp
                                  refine hK.out _ _ ?_ (fun hHeld => ?_)
                                  · exact ⟨jd1, jd4⟩
                                  clear hK K
                                  (try simp only [Act.put, List.setIfInBounds_toArray, List.set_cons_zero, List.set_cons_succ])
                                  refine wpAnyH_take (i := 20) (oi := ⟨some 110, _, _, _, _, _⟩) (v := ?_) rfl (by kernel_rfl) (by kernel_rfl) (by kernel_rfl) (fun _ _ _ h => h) (Or.inl ⟨by rfl, ?_⟩) (by assumption) ?_
                                  rotate_left
                                  · intro w hSw
                                    (try dsimp only at hSw)
                                    go_simp
                                    (try with_reducible rfl)
                                  (try simp only [Act.put, List.setIfInBounds_toArray, List.set_cons_zero, List.set_cons_succ])
                                  refine wpAnyH_ready (rs := [23]) (by kernel_rfl) (by simp) ?_
                                  refine AllReadyH.cons (o := ⟨some 113, _, _, _, _, _⟩) rfl (fun K hK => ?_) ?_
                                  · refine step_app_full (by rfl) (.tmp 110) (.tmp 112) (by rfl) none [] xd _ (by rfl) (by rfl) HLV.out HR7.out hlen7 ?_
                                    intro v2 w8 hv2 hg2 hor2
                                    obtain ⟨⟨a2, n2, c2, rfl⟩, y0, y1, hS8, hS9, hy⟩ := HY.out _ _ hv2 hg2 hor2
                                    have HFin := Lib.hid hy
                                    clear hv2 hg2 hor2 hy
                                    refine hK.out _ _ ?_ (fun hHeld => ?_)
                                    · exact hS8
                                    clear hK K
                                    (try simp only [Act.put, List.setIfInBounds_toArray, List.set_cons_zero, List.set_cons_succ])
                                    refine wpAnyH_take (i := 24) (oi := ⟨some 114, _, _, _, _, _⟩) (v := ?_) rfl (by kernel_rfl) (by kernel_rfl) (by kernel_rfl) (fun _ _ _ h => h) (Or.inl ⟨by rfl, ?_⟩) (by assumption) ?_
                                    rotate_left
                                    · intro w hSw
                                      (try dsimp only at hSw)
                                      go_simp
                                      (try with_reducible rfl)
                                    (try simp only [Act.put, List.setIfInBounds_toArray, List.set_cons_zero, List.set_cons_succ])
                                    refine wpAnyH_ready (rs := [25]) (by kernel_rfl) (by simp) ?_
                                    refine AllReadyH.cons rfl (fun K hK => ?_) ?_
                                    · go_simp
                                      refine hK.out _ _ ?_ (fun hHeld => ?_)
                                      · exact hS9
                                      clear hK K
                                      (try simp only [Act.put, List.setIfInBounds_toArray, List.set_cons_zero, List.set_cons_succ])
                                      refine wpAnyH_done (by kernel_rfl) ?_ _
                                      go_wp2
                                      go_roundw
                                      case rel => exact ⟨m + 1, by omega, by go_num, HFin.out⟩
                                      case measure => simp [intOf]; omega
                                    · exact AllReadyH.nil
                                  · exact AllReadyH.nil
                                · exact AllReadyH.nil
                              · exact AllReadyH.nil
                          · refine AllReadyH.cons (o := ⟨some 108, _, _, _, _, _⟩) rfl (fun K hK => ?_) ?_
                            · go_simp
                              refine hK.out _ _ ?_ (fun hHeld => ?_)
                              · exact ⟨jd1, jd4⟩
                              clear hK K
                              (try simp only [Act.put, List.setIfInBounds_toArray, List.set_cons_zero, List.set_cons_succ])
                              refine wpAnyH_take (i := 19) (oi := ⟨some 109, _, _, _, _, _⟩) (v := ?_) rfl (by kernel_rfl) (by kernel_rfl) (by kernel_rfl) (fun _ _ _ h => h) (Or.inl ⟨by rfl, ?_⟩) (by assumption) ?_
                              rotate_left
                              · intro w hSw
                                (try dsimp only at hSw)
                                go_simp
                                (try with_reducible rfl)
                              (try simp only [Act.put, List.setIfInBounds_toArray, List.set_cons_zero, List.set_cons_succ])
                              refine wpAnyH_ready (rs := [7, 12]) (by kernel_rfl) (by simp) ?_
                              refine AllReadyH.cons (o := ⟨some 97, _, _, _, _, _⟩) rfl (fun K hK => ?_) ?_
                              · go_simp
                                refine hK.out _ _ ?_ (fun hHeld => ?_)
                                · exact ⟨jd1, jd4⟩
                                clear hK K
                                (try simp only [Act.put, List.setIfInBounds_toArray, List.set_cons_zero, List.set_cons_succ])
                                refine wpAnyH_ready (rs := [12]) (by kernel_rfl) (by simp) ?_
                                refine AllReadyH.cons (o := ⟨some 102, _, _, _, _, _⟩) rfl (fun K hK => ?_) ?_
                                · go_simp
                                  refine hK.out _ _ ?_ (fun hHeld => ?_)
                                  · exact ⟨jd1, jd4⟩
                                  clear hK K
                                  (try simp only [Act.put, List.setIfInBounds_toArray, List.set_cons_zero, List.set_cons_succ])
                                  refine wpAnyH_take (i := 13) (oi := ⟨some 103, _, _, _, _, _⟩) (v := ?_) rfl (by kernel_rfl) (by kernel_rfl) (by kernel_rfl) (fun _ _ _ h => h) (Or.inl ⟨by rfl, ?_⟩) (by assumption) ?_
                                  rotate_left
                                  · intro w hSw
                                    (try dsimp only at hSw)
                                    go_simp
                                    (try with_reducible rfl)
                                  (try simp only [Act.put, List.setIfInBounds_toArray, List.set_cons_zero, List.set_cons_succ])
                                  refine wpAnyH_take (i := 20) (oi := ⟨some 110, _, _, _, _, _⟩) (v := ?_) rfl (by kernel_rfl) (by kernel_rfl) (by kernel_rfl) (fun _ _ _ h => h) (Or.inl ⟨by rfl, ?_⟩) (by assumption) ?_
                                  rotate_left
                                  · intro w hSw
                                    (try dsimp only at hSw)
                                    go_simp
                                    (try with_reducible rfl)
                                  (try simp only [Act.put, List.setIfInBounds_toArray, List.set_cons_zero, List.set_cons_succ])
                                  refine wpAnyH_ready (rs := [23]) (by kernel_rfl) (by simp) ?_
                                  refine AllReadyH.cons (o := ⟨some 113, _, _, _, _, _⟩) rfl (fun K hK => ?_) ?_
                                  · refine step_app_full (by rfl) (.tmp 110) (.tmp 112) (by rfl) none [] xd _ (by rfl) (by rfl) HLV.out HR7.out hlen7 ?_
                                    intro v2 w8 hv2 hg2 hor2
                                    obtain ⟨⟨a2, n2, c2, rfl⟩, y0, y1, hS8, hS9, hy⟩ := HY.out _ _ hv2 hg2 hor2
                                    have HFin := Lib.hid hy
                                    clear hv2 hg2 hor2 hy
                                    refine hK.out _ _ ?_ (fun hHeld => ?_)
                                    · exact hS8
                                    clear hK K
                                    (try simp only [Act.put, List.setIfInBounds_toArray, List.set_cons_zero, List.set_cons_succ])
                                    refine wpAnyH_take (i := 24) (oi := ⟨some 114, _, _, _, _, _⟩) (v := ?_) rfl (by kernel_rfl) (by kernel_rfl) (by kernel_rfl) (fun _ _ _ h => h) (Or.inl ⟨by rfl, ?_⟩) (by assumption) ?_
                                    rotate_left
                                    · intro w hSw
                                      (try dsimp only at hSw)
                                      go_simp
                                      (try with_reducible rfl)
                                    (try simp only [Act.put, List.setIfInBounds_toArray, List.set_cons_zero, List.set_cons_succ])
                                    refine wpAnyH_ready (rs := [25]) (by kernel_rfl) (by simp) ?_
                                    refine AllReadyH.cons rfl (fun K hK => ?_) ?_
                                    · go_simp
                                      refine hK.out _ _ ?_ (fun hHeld => ?_)
                                      · exact hS9
                                      clear hK K
                                      (try simp only [Act.put, List.setIfInBounds_toArray, List.set_cons_zero, List.set_cons_succ])
                                      refine wpAnyH_done (by kernel_rfl) ?_ _
                                      go_wp2
                                      go_roundw
                                      case rel => exact ⟨m + 1, by omega, by go_num, HFin.out⟩
                                      case measure => simp [intOf]; omega
                                    · exact AllReadyH.nil
                                  · exact AllReadyH.nil
                                · exact AllReadyH.nil
                              · refine AllReadyH.cons (o := ⟨some 102, _, _, _, _, _⟩) rfl (fun K hK => ?_) ?_
                                · go_simp
                                  refine hK.out _ _ ?_ (fun hHeld => ?_)
                                  · exact ⟨jd1, jd4⟩
                                  clear hK K
                                  (try simp only [Act.put, List.setIfInBounds_toArray, List.set_cons_zero, List.set_cons_succ])
                                  refine wpAnyH_take (i := 13) (oi := ⟨some 103, _, _, _, _, _⟩) (v := ?_) rfl (by kernel_rfl) (by kernel_rfl) (by kernel_rfl) (fun _ _ _ h => h) (Or.inl ⟨by rfl, ?_⟩) (by assumption) ?_
                                  rotate_left
                                  · intro w hSw
                                    (try dsimp only at hSw)
                                    go_simp
                                    (try with_reducible rfl)
                                  (try simp only [Act.put, List.setIfInBounds_toArray, List.set_cons_zero, List.set_cons_succ])
                                  refine wpAnyH_ready (rs := [7]) (by kernel_rfl) (by simp) ?_
                                  refine AllReadyH.cons (o := ⟨some 97, _, _, _, _, _⟩) rfl (fun K hK => ?_) ?_
                                  · go_simp
                                    refine hK.out _ _ ?_ (fun hHeld => ?_)
                                    · exact ⟨jd1, jd4⟩
                                    clear hK K
                                    (try simp only [Act.put, List.setIfInBounds_toArray, List.set_cons_zero, List.set_cons_succ])
                                    refine wpAnyH_take (i := 20) (oi := ⟨some 110, _, _, _, _, _⟩) (v := ?_) rfl (by kernel_rfl) (by kernel_rfl) (by kernel_rfl) (fun _ _ _ h => h) (Or.inl ⟨by rfl, ?_⟩) (by assumption) ?_
                                    rotate_left
                                    · intro w hSw
                                      (try dsimp only at hSw)
                                      go_simp
                                      (try with_reducible rfl)
                                    (try simp only [Act.put, List.setIfInBounds_toArray, List.set_cons_zero, List.set_cons_succ])
                                    refine wpAnyH_ready (rs := [23]) (by kernel_rfl) (by simp) ?_
                                    refine AllReadyH.cons (o := ⟨some 113, _, _, _, _, _⟩) rfl (fun K hK => ?_) ?_
                                    · refine step_app_full (by rfl) (.tmp 110) (.tmp 112) (by rfl) none [] xd _ (by rfl) (by rfl) HLV.out HR7.out hlen7 ?_
                                      intro v2 w8 hv2 hg2 hor2
                                      obtain ⟨⟨a2, n2, c2, rfl⟩, y0, y1, hS8, hS9, hy⟩ := HY.out _ _ hv2 hg2 hor2
                                      have HFin := Lib.hid hy
                                      clear hv2 hg2 hor2 hy
                                      refine hK.out _ _ ?_ (fun hHeld => ?_)
                                      · exact hS8
                                      clear hK K
                                      (try simp only [Act.put, List.setIfInBounds_toArray, List.set_cons_zero, List.set_cons_succ])
                                      refine wpAnyH_take (i := 24) (oi := ⟨some 114, _, _, _, _, _⟩) (v := ?_) rfl (by kernel_rfl) (by kernel_rfl) (by kernel_rfl) (fun _ _ _ h => h) (Or.inl ⟨by rfl, ?_⟩) (by assumption) ?_
                                      rotate_left
                                      · intro w hSw
                                        (try dsimp only at hSw)
                                        go_simp
                                        (try with_reducible rfl)
                                      (try simp only [Act.put, List.setIfInBounds_toArray, List.set_cons_zero, List.set_cons_succ])
                                      refine wpAnyH_ready (rs := [25]) (by kernel_rfl) (by simp) ?_
                                      refine AllReadyH.cons rfl (fun K hK => ?_) ?_
                                      · go_simp
                                        refine hK.out _ _ ?_ (fun hHeld => ?_)
                                        · exact hS9
                                        clear hK K
                                        (try simp only [Act.put, List.setIfInBounds_toArray, List.set_cons_zero, List.set_cons_succ])
                                        refine wpAnyH_done (by kernel_rfl) ?_ _
                                        go_wp2
                                        go_roundw
                                        case rel => exact ⟨m + 1, by omega, by go_num, HFin.out⟩
                                        case measure => simp [intOf]; omega
                                      · exact AllReadyH.nil
                                    · exact AllReadyH.nil
                                  · exact AllReadyH.nil
                                · exact AllReadyH.nil
                            · exact AllReadyH.nil
                    · as_aux_lemma =>
                        unfold maxLen at hcm
                        go_upto_region 13 with (fail)
                        have jd1 : w7.drew.cell? ⟨q4, 1, none⟩ = some (.int .i64 k) := j1
                        have jd4 : w7.drew.cell? ⟨q4, 4, none⟩ = some (.slice xda xd.length xdc) := j4
                        have jdr : w7.drew.cell? ⟨la, k, none⟩ = _ := jr
                        refine wp_region_held_drew (S := fun w' => w'.cell? ⟨q4, 1, none⟩ = some (.int .i64 k) ∧ w'.cell? ⟨q4, 4, none⟩ = some (.slice xda xd.length xdc)) (by kernel_rfl) ?_ (fun hHeld => ?_)
                        · exact ⟨jd1, jd4⟩
                        refine wpAnyH_take (i := 0) (oi := ⟨some 90, _, _, _, _, _⟩) (v := ?_) rfl (by kernel_rfl) (by kernel_rfl) (by kernel_rfl) (fun _ _ _ h => h) (Or.inl ⟨by rfl, ?_⟩) (by assumption) ?_
                        rotate_left
                        · intro w hSw
                          (try dsimp only at hSw)
                          go_simp
                          (try with_reducible rfl)
                        (try simp only [Act.put, List.setIfInBounds_toArray, List.set_cons_zero, List.set_cons_succ])
                        refine wpAnyH_take (i := 1) (oi := ⟨some 91, _, _, _, _, _⟩) (v := ?_) rfl (by kernel_rfl) (by kernel_rfl) (by kernel_rfl) (fun _ _ _ h => h) (Or.inl ⟨by rfl, ?_⟩) (by assumption) ?_
                        rotate_left
                        · intro w hSw
                          (try dsimp only at hSw)
                          go_simp
                          (try with_reducible rfl)
                        (try simp only [Act.put, List.setIfInBounds_toArray, List.set_cons_zero, List.set_cons_succ])
                        refine wpAnyH_take (i := 2) (oi := ⟨some 92, _, _, _, _, _⟩) (v := ?_) rfl (by kernel_rfl) (by kernel_rfl) (by kernel_rfl) (fun _ _ _ h => h) (Or.inl ⟨by rfl, ?_⟩) (by assumption) ?_
                        rotate_left
                        · intro w hSw
                          (try dsimp only at hSw)
                          go_simp
                          (try with_reducible rfl)
                        (try simp only [Act.put, List.setIfInBounds_toArray, List.set_cons_zero, List.set_cons_succ])
                        refine wpAnyH_take (i := 3) (oi := ⟨some 93, _, _, _, _, _⟩) (v := ?_) rfl (by kernel_rfl) (by kernel_rfl) (by kernel_rfl) (fun _ _ _ h => h) (Or.inl ⟨by rfl, ?_⟩) (by assumption) ?_
                        rotate_left
                        · intro w hSw
                          (try dsimp only at hSw)
                          go_simp
                          (try with_reducible rfl)
                        (try simp only [Act.put, List.setIfInBounds_toArray, List.set_cons_zero, List.set_cons_succ])
                        refine wpAnyH_take (i := 4) (oi := ⟨some 94, _, _, _, _, _⟩) (v := ?_) rfl (by kernel_rfl) (by kernel_rfl) (by kernel_rfl) (fun _ _ _ h => h) (Or.inl ⟨by rfl, ?_⟩) (by assumption) ?_
                        rotate_left
                        · intro w hSw
                          (try dsimp only at hSw)
                          go_simp
                          (try with_reducible rfl)
                        (try simp only [Act.put, List.setIfInBounds_toArray, List.set_cons_zero, List.set_cons_succ])
                        refine wpAnyH_take (i := 5) (oi := ⟨some 95, _, _, _, _, _⟩) (v := ?_) rfl (by kernel_rfl) (by kernel_rfl) (by kernel_rfl) (fun _ _ _ h => h) (Or.inl ⟨by rfl, ?_⟩) (by assumption) ?_
                        rotate_left
                        · intro w hSw
                          (try dsimp only at hSw)
                          go_simp
                          (try with_reducible rfl)
                        (try simp only [Act.put, List.setIfInBounds_toArray, List.set_cons_zero, List.set_cons_succ])
                        refine wpAnyH_take (i := 6) (oi := ⟨some 96, _, _, _, _, _⟩) (v := ?_) rfl (by kernel_rfl) (by kernel_rfl) (by kernel_rfl) (fun _ _ _ h => h) (Or.inl ⟨by rfl, ?_⟩) (by assumption) ?_
                        rotate_left
                        · intro w hSw
                          (try dsimp only at hSw)
                          go_simp
                          (try with_reducible rfl)
                        (try simp only [Act.put, List.setIfInBounds_toArray, List.set_cons_zero, List.set_cons_succ])
                        refine wpAnyH_take (i := 8) (oi := ⟨some 98, _, _, _, _, _⟩) (v := ?_) rfl (by kernel_rfl) (by kernel_rfl) (by kernel_rfl) (fun _ _ _ h => h) (Or.inl ⟨by rfl, ?_⟩) (by assumption) ?_
                        rotate_left
                        · intro w hSw
                          (try dsimp only at hSw)
                          go_simp
                          (try with_reducible rfl)
                        (try simp only [Act.put, List.setIfInBounds_toArray, List.set_cons_zero, List.set_cons_succ])
                        refine wpAnyH_take (i := 9) (oi := ⟨some 99, _, _, _, _, _⟩) (v := ?_) rfl (by kernel_rfl) (by kernel_rfl) (by kernel_rfl) (fun _ _ _ h => h) (Or.inl ⟨by rfl, ?_⟩) (by assumption) ?_
                        rotate_left
                        · intro w hSw
                          (try dsimp only at hSw)
                          go_simp
                          (try with_reducible rfl)
                        (try simp only [Act.put, List.setIfInBounds_toArray, List.set_cons_zero, List.set_cons_succ])
                        refine wpAnyH_take (i := 10) (oi := ⟨some 100, _, _, _, _, _⟩) (v := ?_) rfl (by kernel_rfl) (by kernel_rfl) (by kernel_rfl) (fun _ _ _ h => h) (Or.inl ⟨by rfl, ?_⟩) (by assumption) ?_
                        rotate_left
                        · intro w hSw
                          (try dsimp only at hSw)
                          go_simp
                          (try with_reducible rfl)
                        (try simp only [Act.put, List.setIfInBounds_toArray, List.set_cons_zero, List.set_cons_succ])
                        refine wpAnyH_take (i := 11) (oi := ⟨some 101, _, _, _, _, _⟩) (v := ?_) rfl (by kernel_rfl) (by kernel_rfl) (by kernel_rfl) (fun _ _ _ h => h) (Or.inl ⟨by rfl, ?_⟩) (by assumption) ?_
                        rotate_left
                        · intro w hSw
                          (try dsimp only at hSw)
                          go_simp
                          (try with_reducible rfl)
                        (try simp only [Act.put, List.setIfInBounds_toArray, List.set_cons_zero, List.set_cons_succ])
                        refine wpAnyH_take (i := 14) (oi := ⟨some 104, _, _, _, _, _⟩) (v := ?_) rfl (by kernel_rfl) (by kernel_rfl) (by kernel_rfl) (fun _ _ _ h => h) (Or.inl ⟨by rfl, ?_⟩) (by assumption) ?_
                        rotate_left
                        · intro w hSw
                          (try dsimp only at hSw)
                          go_simp
                          (try with_reducible rfl)
                        (try simp only [Act.put, List.setIfInBounds_toArray, List.set_cons_zero, List.set_cons_succ])
                        refine wpAnyH_take (i := 15) (oi := ⟨some 105, _, _, _, _, _⟩) (v := ?_) rfl (by kernel_rfl) (by kernel_rfl) (by kernel_rfl) (fun _ _ _ h => h) (Or.inl ⟨by rfl, ?_⟩) (by assumption) ?_
                        rotate_left
                        · intro w hSw
                          (try dsimp only at hSw)
                          go_simp
                          (try with_reducible rfl)
                        (try simp only [Act.put, List.setIfInBounds_toArray, List.set_cons_zero, List.set_cons_succ])
                        refine wpAnyH_take (i := 16) (oi := ⟨some 106, _, _, _, _, _⟩) (v := ?_) rfl (by kernel_rfl) (by kernel_rfl) (by kernel_rfl) (fun _ _ _ h => h) (Or.inl ⟨by rfl, ?_⟩) (by assumption) ?_
                        rotate_left
                        · intro w hSw
                          (try dsimp only at hSw)
                          go_simp
                          (try with_reducible rfl)
                        (try simp only [Act.put, List.setIfInBounds_toArray, List.set_cons_zero, List.set_cons_succ])
                        refine wpAnyH_take (i := 17) (oi := ⟨some 107, _, _, _, _, _⟩) (v := ?_) rfl (by kernel_rfl) (by kernel_rfl) (by kernel_rfl) (fun _ _ _ h => h) (Or.inl ⟨by rfl, ?_⟩) (by assumption) ?_
                        rotate_left
                        · intro w hSw
                          (try dsimp only at hSw)
                          go_simp
                          (try with_reducible rfl)
                        (try simp only [Act.put, List.setIfInBounds_toArray, List.set_cons_zero, List.set_cons_succ])
                        refine wpAnyH_take (i := 21) (oi := ⟨some 111, _, _, _, _, _⟩) (v := ?_) rfl (by kernel_rfl) (by kernel_rfl) (by kernel_rfl) (fun _ _ _ h => h) (Or.inl ⟨by rfl, ?_⟩) (by assumption) ?_
                        rotate_left
                        · intro w hSw
                          (try dsimp only at hSw)
                          go_simp
                          (try with_reducible rfl)
                        (try simp only [Act.put, List.setIfInBounds_toArray, List.set_cons_zero, List.set_cons_succ])
                        refine wpAnyH_take (i := 22) (oi := ⟨some 112, _, _, _, _, _⟩) (v := ?_) rfl (by kernel_rfl) (by kernel_rfl) (by kernel_rfl) (fun _ _ _ h => h) (Or.inl ⟨by rfl, ?_⟩) (by assumption) ?_
                        rotate_left
                        · intro w hSw
                          (try dsimp only at hSw)
                          go_simp
                          (try with_reducible rfl)
                        (try simp only [Act.put, List.setIfInBounds_toArray, List.set_cons_zero, List.set_cons_succ])
                        refine wpAnyH_ready (rs := [7, 12, 18]) (by kernel_rfl) (by simp) ?_
                        refine AllReadyH.cons (o := ⟨some 97, _, _, _, _, _⟩) rfl (fun K hK => ?_) ?_
                        · go_simp
                          refine hK.out _ _ ?_ (fun hHeld => ?_)
                          · exact ⟨jd1, jd4⟩
                          clear hK K
                          (try simp only [Act.put, List.setIfInBounds_toArray, List.set_cons_zero, List.set_cons_succ])
                          refine wpAnyH_ready (rs := [12, 18]) (by kernel_rfl) (by simp) ?_
                          refine AllReadyH.cons (o := ⟨some 102, _, _, _, _, _⟩) rfl (fun K hK => ?_) ?_
                          · go_simp
                            refine hK.out _ _ ?_ (fun hHeld => ?_)
                            · exact ⟨jd1, jd4⟩
                            clear hK K
                            (try simp only [Act.put, List.setIfInBounds_toArray, List.set_cons_zero, List.set_cons_succ])
                            refine wpAnyH_take (i := 13) (oi := ⟨some 103, _, _, _, _, _⟩) (v := ?_) rfl (by kernel_rfl) (by kernel_rfl) (by kernel_rfl) (fun _ _ _ h => h) (Or.inl ⟨by rfl, ?_⟩) (by assumption) ?_
                            rotate_left
                            · intro w hSw
                              (try dsimp only at hSw)
                              go_simp
                              (try with_reducible rfl)
                            (try simp only [Act.put, List.setIfInBounds_toArray, List.set_cons_zero, List.set_cons_succ])
                            refine wpAnyH_ready (rs := [18]) (by kernel_rfl) (by simp) ?_
                            refine AllReadyH.cons (o := ⟨some 108, _, _, _, _, _⟩) rfl (fun K hK => ?_) ?_
                            · go_simp
                              refine hK.out _ _ ?_ (fun hHeld => ?_)
                              · exact ⟨jd1, jd4⟩
                              clear hK K
                              (try simp only [Act.put, List.setIfInBounds_toArray, List.set_cons_zero, List.set_cons_succ])
                              refine wpAnyH_take (i := 19) (oi := ⟨some 109, _, _, _, _, _⟩) (v := ?_) rfl (by kernel_rfl) (by kernel_rfl) (by kernel_rfl) (fun _ _ _ h => h) (Or.inl ⟨by rfl, ?_⟩) (by assumption) ?_
                              rotate_left
                              · intro w hSw
                                (try dsimp only at hSw)
                                go_simp
                                (try with_reducible rfl)
                              (try simp only [Act.put, List.setIfInBounds_toArray, List.set_cons_zero, List.set_cons_succ])
                              refine wpAnyH_take (i := 20) (oi := ⟨some 110, _, _, _, _, _⟩) (v := ?_) rfl (by kernel_rfl) (by kernel_rfl) (by kernel_rfl) (fun _ _ _ h => h) (Or.inl ⟨by rfl, ?_⟩) (by assumption) ?_
                              rotate_left
                              · intro w hSw
                                (try dsimp only at hSw)
                                go_simp
                                (try with_reducible rfl)
                              (try simp only [Act.put, List.setIfInBounds_toArray, List.set_cons_zero, List.set_cons_succ])
                              refine wpAnyH_ready (rs := [23]) (by kernel_rfl) (by simp) ?_
                              refine AllReadyH.cons (o := ⟨some 113, _, _, _, _, _⟩) rfl (fun K hK => ?_) ?_
                              · refine step_app_full (by rfl) (.tmp 110) (.tmp 112) (by rfl) _ bk xd _ (by rfl) (by rfl) HLV.out HR7.out hlen7 ?_
                                intro v2 w8 hv2 hg2 hor2
                                obtain ⟨⟨a2, n2, c2, rfl⟩, y0, y1, hS8, hS9, hy⟩ := HY.out _ _ hv2 hg2 hor2
                                have HFin := Lib.hid hy
                                clear hv2 hg2 hor2 hy
                                refine hK.out _ _ ?_ (fun hHeld => ?_)
                                · exact hS8
                                clear hK K
                                (try simp only [Act.put, List.setIfInBounds_toArray, List.set_cons_zero, List.set_cons_succ])
                                refine wpAnyH_take (i := 24) (oi := ⟨some 114, _, _, _, _, _⟩) (v := ?_) rfl (by kernel_rfl) (by kernel_rfl) (by kernel_rfl) (fun _ _ _ h => h) (Or.inl ⟨by rfl, ?_⟩) (by assumption) ?_
                                rotate_left
                                · intro w hSw
                                  (try dsimp only at hSw)
                                  go_simp
                                  (try with_reducible rfl)
                                (try simp only [Act.put, List.setIfInBounds_toArray, List.set_cons_zero, List.set_cons_succ])
                                refine wpAnyH_ready (rs := [25]) (by kernel_rfl) (by simp) ?_
                                refine AllReadyH.cons rfl (fun K hK => ?_) ?_
                                · go_simp
                                  refine hK.out _ _ ?_ (fun hHeld => ?_)
                                  · exact hS9
                                  clear hK K
                                  (try simp only [Act.put, List.setIfInBounds_toArray, List.set_cons_zero, List.set_cons_succ])
                                  refine wpAnyH_done (by kernel_rfl) ?_ _
                                  go_wp2
                                  go_roundw
                                  case rel => exact ⟨m + 1, by omega, by go_num, HFin.out⟩
                                  case measure => simp [intOf]; omega
                                · exact AllReadyH.nil
                              · exact AllReadyH.nil
                            · exact AllReadyH.nil
                          · refine AllReadyH.cons (o := ⟨some 108, _, _, _, _, _⟩) rfl (fun K hK => ?_) ?_
                            · go_simp
                              refine hK.out _ _ ?_ (fun hHeld => ?_)
                              · exact ⟨jd1, jd4⟩
                              clear hK K
                              (try simp only [Act.put, List.setIfInBounds_toArray, List.set_cons_zero, List.set_cons_succ])
                              refine wpAnyH_take (i := 19) (oi := ⟨some 109, _, _, _, _, _⟩) (v := ?_) rfl (by kernel_rfl) (by kernel_rfl) (by kernel_rfl) (fun _ _ _ h => h) (Or.inl ⟨by rfl, ?_⟩) (by assumption) ?_
                              rotate_left
                              · intro w hSw
                                (try dsimp only at hSw)
                                go_simp
                                (try with_reducible rfl)
                              (try simp only [Act.put, List.setIfInBounds_toArray, List.set_cons_zero, List.set_cons_succ])
                              refine wpAnyH_ready (rs := [12]) (by kernel_rfl) (by simp) ?_
                              refine AllReadyH.cons (o := ⟨some 102, _, _, _, _, _⟩) rfl (fun K hK => ?_) ?_
                              · go_simp
                                refine hK.out _ _ ?_ (fun hHeld => ?_)
                                · exact ⟨jd1, jd4⟩
                                clear hK K
                                (try simp only [Act.put, List.setIfInBounds_toArray, List.set_cons_zero, List.set_cons_succ])
                                refine wpAnyH_take (i := 13) (oi := ⟨some 103, _, _, _, _, _⟩) (v := ?_) rfl (by kernel_rfl) (by kernel_rfl) (by kernel_rfl) (fun _ _ _ h => h) (Or.inl ⟨by rfl, ?_⟩) (by assumption) ?_
                                rotate_left
                                · intro w hSw
                                  (try dsimp only at hSw)
                                  go_simp
                                  (try with_reducible rfl)
                                (try simp only [Act.put, List.setIfInBounds_toArray, List.set_cons_zero, List.set_cons_succ])
                                refine wpAnyH_take (i := 20) (oi := ⟨some 110, _, _, _, _, _⟩) (v := ?_) rfl (by kernel_rfl) (by kernel_rfl) (by kernel_rfl) (fun _ _ _ h => h) (Or.inl ⟨by rfl, ?_⟩) (by assumption) ?_
                                rotate_left
                                · intro w hSw
                                  (try dsimp only at hSw)
                                  go_simp
                                  (try with_reducible rfl)
                                (try simp only [Act.put, List.setIfInBounds_toArray, List.set_cons_zero, List.set_cons_succ])
                                refine wpAnyH_ready (rs := [23]) (by kernel_rfl) (by simp) ?_
                                refine AllReadyH.cons (o := ⟨some 113, _, _, _, _, _⟩) rfl (fun K hK => ?_) ?_
                                · refine step_app_full (by rfl) (.tmp 110) (.tmp 112) (by rfl) _ bk xd _ (by rfl) (by rfl) HLV.out HR7.out hlen7 ?_
                                  intro v2 w8 hv2 hg2 hor2
                                  obtain ⟨⟨a2, n2, c2, rfl⟩, y0, y1, hS8, hS9, hy⟩ := HY.out _ _ hv2 hg2 hor2
                                  have HFin := Lib.hid hy
                                  clear hv2 hg2 hor2 hy
                                  refine hK.out _ _ ?_ (fun hHeld => ?_)
                                  · exact hS8
                                  clear hK K
                                  (try simp only [Act.put, List.setIfInBounds_toArray, List.set_cons_zero, List.set_cons_succ])
                                  refine wpAnyH_take (i := 24) (oi := ⟨some 114, _, _, _, _, _⟩) (v := ?_) rfl (by kernel_rfl) (by kernel_rfl) (by kernel_rfl) (fun _ _ _ h => h) (Or.inl ⟨by rfl, ?_⟩) (by assumption) ?_
                                  rotate_left
                                  · intro w hSw
                                    (try dsimp only at hSw)
                                    go_simp
                                    (try with_reducible rfl)
                                  (try simp only [Act.put, List.setIfInBounds_toArray, List.set_cons_zero, List.set_cons_succ])
                                  refine wpAnyH_ready (rs := [25]) (by kernel_rfl) (by simp) ?_
                                  refine AllReadyH.cons rfl (fun K hK => ?_) ?_
                                  · go_simp
                                    refine hK.out _ _ ?_ (fun hHeld => ?_)
                                    · exact hS9
                                    clear hK K
                                    (try simp only [Act.put, List.setIfInBounds_toArray, List.set_cons_zero, List.set_cons_succ])
                                    refine wpAnyH_done (by kernel_rfl) ?_ _
                                    go_wp2
                                    go_roundw
                                    case rel => exact ⟨m + 1, by omega, by go_num, HFin.out⟩
                                    case measure => simp [intOf]; omega
                                  · exact AllReadyH.nil
                                · exact AllReadyH.nil
                              · exact AllReadyH.nil
                            · exact AllReadyH.nil
                        · refine AllReadyH.cons (o := ⟨some 102, _, _, _, _, _⟩) rfl (fun K hK => ?_) ?_
                          · go_simp
                            refine hK.out _ _ ?_ (fun hHeld => ?_)
                            · exact ⟨jd1, jd4⟩
                            clear hK K
                            (try simp only [Act.put, List.setIfInBounds_toArray, List.set_cons_zero, List.set_cons_succ])
                            refine wpAnyH_take (i := 13) (oi := ⟨some 103, _, _, _, _, _⟩) (v := ?_) rfl (by kernel_rfl) (by kernel_rfl) (by kernel_rfl) (fun _ _ _ h => h) (Or.inl ⟨by rfl, ?_⟩) (by assumption) ?_
                            rotate_left
                            · intro w hSw
                              (try dsimp only at hSw)
                              go_simp
                              (try with_reducible rfl)
                            (try simp only [Act.put, List.setIfInBounds_toArray, List.set_cons_zero, List.set_cons_succ])
                            refine wpAnyH_ready (rs := [7, 18]) (by kernel_rfl) (by simp) ?_
                            refine AllReadyH.cons (o := ⟨some 97, _, _, _, _, _⟩) rfl (fun K hK => ?_) ?_
                            · go_simp
                              refine hK.out _ _ ?_ (fun hHeld => ?_)
                              · exact ⟨jd1, jd4⟩
                              clear hK K
                              (try simp only [Act.put, List.setIfInBounds_toArray, List.set_cons_zero, List.set_cons_succ])
                              refine wpAnyH_ready (rs := [18]) (by kernel_rfl) (by simp) ?_
                              refine AllReadyH.cons (o := ⟨some 108, _, _, _, _, _⟩) rfl (fun K hK => ?_) ?_
                              · go_simp
                                refine hK.out _ _ ?_ (fun hHeld => ?_)
                                · exact ⟨jd1, jd4⟩
                                clear hK K
                                (try simp only [Act.put, List.setIfInBounds_toArray, List.set_cons_zero, List.set_cons_succ])
                                refine wpAnyH_take (i := 19) (oi := ⟨some 109, _, _, _, _, _⟩) (v := ?_) rfl (by kernel_rfl) (by kernel_rfl) (by kernel_rfl) (fun _ _ _ h => h) (Or.inl ⟨by rfl, ?_⟩) (by assumption) ?_
                                rotate_left
                                · intro w hSw
                                  (try dsimp only at hSw)
                                  go_simp
                                  (try with_reducible rfl)
                                (try simp only [Act.put, List.setIfInBounds_toArray, List.set_cons_zero, List.set_cons_succ])
                                refine wpAnyH_take (i := 20) (oi := ⟨some 110, _, _, _, _, _⟩) (v := ?_) rfl (by kernel_rfl) (by kernel_rfl) (by kernel_rfl) (fun _ _ _ h => h) (Or.inl ⟨by rfl, ?_⟩) (by assumption) ?_
                                rotate_left
                                · intro w hSw
                                  (try dsimp only at hSw)
                                  go_simp
                                  (try with_reducible rfl)
                                (try simp only [Act.put, List.setIfInBounds_toArray, List.set_cons_zero, List.set_cons_succ])
                                refine wpAnyH_ready (rs := [23]) (by kernel_rfl) (by simp) ?_
                                refine AllReadyH.cons (o := ⟨some 113, _, _, _, _, _⟩) rfl (fun K hK => ?_) ?_
                                · refine step_app_full (by rfl) (.tmp 110) (.tmp 112) (by rfl) _ bk xd _ (by rfl) (by rfl) HLV.out HR7.out hlen7 ?_
                                  intro v2 w8 hv2 hg2 hor2
                                  obtain ⟨⟨a2, n2, c2, rfl⟩, y0, y1, hS8, hS9, hy⟩ := HY.out _ _ hv2 hg2 hor2
                                  have HFin := Lib.hid hy
                                  clear hv2 hg2 hor2 hy
                                  refine hK.out _ _ ?_ (fun hHeld => ?_)
                                  · exact hS8
                                  clear hK K
                                  (try simp only [Act.put, List.setIfInBounds_toArray, List.set_cons_zero, List.set_cons_succ])
                                  refine wpAnyH_take (i := 24) (oi := ⟨some 114, _, _, _, _, _⟩) (v := ?_) rfl (by kernel_rfl) (by kernel_rfl) (by kernel_rfl) (fun _ _ _ h => h) (Or.inl ⟨by rfl, ?_⟩) (by assumption) ?_
                                  rotate_left
                                  · intro w hSw
                                    (try dsimp only at hSw)
                                    go_simp
                                    (try with_reducible rfl)
                                  (try simp only [Act.put, List.setIfInBounds_toArray, List.set_cons_zero, List.set_cons_succ])
                                  refine wpAnyH_ready (rs := [25]) (by kernel_rfl) (by simp) ?_
                                  refine AllReadyH.cons rfl (fun K hK => ?_) ?_
                                  · go_simp
                                    refine hK.out _ _ ?_ (fun hHeld => ?_)
                                    · exact hS9
                                    clear hK K
                                    (try simp only [Act.put, List.setIfInBounds_toArray, List.set_cons_zero, List.set_cons_succ])
                                    refine wpAnyH_done (by kernel_rfl) ?_ _
                                    go_wp2
                                    go_roundw
                                    case rel => exact ⟨m + 1, by omega, by go_num, HFin.out⟩
                                    case measure => simp [intOf]; omega
                                  · exact AllReadyH.nil
                                · exact AllReadyH.nil
                              · exact AllReadyH.nil
                            · refine AllReadyH.cons (o := ⟨some 108, _, _, _, _, _⟩) rfl (fun K hK => ?_) ?_
                              · go_simp
                                refine hK.out _ _ ?_ (fun hHeld => ?_)
                                · exact ⟨jd1, jd4⟩
                                clear hK K
                                (try simp only [Act.put, List.setIfInBounds_toArray, List.set_cons_zero, List.set_cons_succ])
                                refine wpAnyH_take (i := 19) (oi := ⟨some 109, _, _, _, _, _⟩) (v := ?_) rfl (by kernel_rfl) (by kernel_rfl) (by kernel_rfl) (fun _ _ _ h => h) (Or.inl ⟨by rfl, ?_⟩) (by assumption) ?_
                                rotate_left
                                · intro w hSw
                                  (try dsimp only at hSw)
                                  go_simp
                                  (try with_reducible rfl)
                                (try simp only [Act.put, List.setIfInBounds_toArray, List.set_cons_zero, List.set_cons_succ])
                                refine wpAnyH_ready (rs := [7]) (by kernel_rfl) (by simp) ?_
                                refine AllReadyH.cons (o := ⟨some 97, _, _, _, _, _⟩) rfl (fun K hK => ?_) ?_
                                · go_simp
                                  refine hK.out _ _ ?_ (fun hHeld => ?_)
                                  · exact ⟨jd1, jd4⟩
                                  clear hK K
                                  (try simp only [Act.put, List.setIfInBounds_toArray, List.set_cons_zero, List.set_cons_succ])
                                  refine wpAnyH_take (i := 20) (oi := ⟨some 110, _, _, _, _, _⟩) (v := ?_) rfl (by kernel_rfl) (by kernel_rfl) (by kernel_rfl) (fun _ _ _ h => h) (Or.inl ⟨by rfl, ?_⟩) (by assumption) ?_
                                  rotate_left
                                  · intro w hSw
                                    (try dsimp only at hSw)
                                    go_simp
                                    (try with_reducible rfl)
                                  (try simp only [Act.put, List.setIfInBounds_toArray, List.set_cons_zero, List.set_cons_succ])
                                  refine wpAnyH_ready (rs := [23]) (by kernel_rfl) (by simp) ?_
                                  refine AllReadyH.cons (o := ⟨some 113, _, _, _, _, _⟩) rfl (fun K hK => ?_) ?_
                                  · refine step_app_full (by rfl) (.tmp 110) (.tmp 112) (by rfl) _ bk xd _ (by rfl) (by rfl) HLV.out HR7.out hlen7 ?_
                                    intro v2 w8 hv2 hg2 hor2
                                    obtain ⟨⟨a2, n2, c2, rfl⟩, y0, y1, hS8, hS9, hy⟩ := HY.out _ _ hv2 hg2 hor2
                                    have HFin := Lib.hid hy
                                    clear hv2 hg2 hor2 hy
                                    refine hK.out _ _ ?_ (fun hHeld => ?_)
                                    · exact hS8
                                    clear hK K
                                    (try simp only [Act.put, List.setIfInBounds_toArray, List.set_cons_zero, List.set_cons_succ])
                                    refine wpAnyH_take (i := 24) (oi := ⟨some 114, _, _, _, _, _⟩) (v := ?_) rfl (by kernel_rfl) (by kernel_rfl) (by kernel_rfl) (fun _ _ _ h => h) (Or.inl ⟨by rfl, ?_⟩) (by assumption) ?_
                                    rotate_left
                                    · intro w hSw
                                      (try dsimp only at hSw)
                                      go_simp
                                      (try with_reducible rfl)
                                    (try simp only [Act.put, List.setIfInBounds_toArray, List.set_cons_zero, List.set_cons_succ])
                                    refine wpAnyH_ready (rs := [25]) (by kernel_rfl) (by simp) ?_
                                    refine AllReadyH.cons rfl (fun K hK => ?_) ?_
                                    · go_simp
                                      refine hK.out _ _ ?_ (fun hHeld => ?_)
                                      · exact hS9
                                      clear hK K
                                      (try simp only [Act.put, List.setIfInBounds_toArray, List.set_cons_zero, List.set_cons_succ])
                                      refine wpAnyH_done (by kernel_rfl) ?_ _
                                      go_wp2
                                      go_roundw
                                      case rel => exact ⟨m + 1, by omega, by go_num, HFin.out⟩
                                      case measure => simp [intOf]; omega
                                    · exact AllReadyH.nil
                                  · exact AllReadyH.nil
                                · exact AllReadyH.nil
                              · exact AllReadyH.nil
                          · refine AllReadyH.cons (o := ⟨some 108, _, _, _, _, _⟩) rfl (fun K hK => ?_) ?_
                            · go_simp
                              refine hK.out _ _ ?_ (fun hHeld => ?_)
                              · exact ⟨jd1, jd4⟩
                              clear hK K
                              (try simp only [Act.put, List.setIfInBounds_toArray, List.set_cons_zero, List.set_cons_succ])
                              refine wpAnyH_take (i := 19) (oi := ⟨some 109, _, _, _, _, _⟩) (v := ?_) rfl (by kernel_rfl) (by kernel_rfl) (by kernel_rfl) (fun _ _ _ h => h) (Or.inl ⟨by rfl, ?_⟩) (by assumption) ?_
                              rotate_left
                              · intro w hSw
                                (try dsimp only at hSw)
                                go_simp
                                (try with_reducible rfl)
                              (try simp only [Act.put, List.setIfInBounds_toArray, List.set_cons_zero, List.set_cons_succ])
                              refine wpAnyH_ready (rs := [7, 12]) (by kernel_rfl) (by simp) ?_
                              refine AllReadyH.cons (o := ⟨some 97, _, _, _, _, _⟩) rfl (fun K hK => ?_) ?_
                              · go_simp
                                refine hK.out _ _ ?_ (fun hHeld => ?_)
                                · exact ⟨jd1, jd4⟩
                                clear hK K
                                (try simp only [Act.put, List.setIfInBounds_toArray, List.set_cons_zero, List.set_cons_succ])
                                refine wpAnyH_ready (rs := [12]) (by kernel_rfl) (by simp) ?_
                                refine AllReadyH.cons (o := ⟨some 102, _, _, _, _, _⟩) rfl (fun K hK => ?_) ?_
                                · go_simp
                                  refine hK.out _ _ ?_ (fun hHeld => ?_)
                                  · exact ⟨jd1, jd4⟩
                                  clear hK K
                                  (try simp only [Act.put, List.setIfInBounds_toArray, List.set_cons_zero, List.set_cons_succ])
                                  refine wpAnyH_take (i := 13) (oi := ⟨some 103, _, _, _, _, _⟩) (v := ?_) rfl (by kernel_rfl) (by kernel_rfl) (by kernel_rfl) (fun _ _ _ h => h) (Or.inl ⟨by rfl, ?_⟩) (by assumption) ?_
                                  rotate_left
                                  · intro w hSw
                                    (try dsimp only at hSw)
                                    go_simp
                                    (try with_reducible rfl)
                                  (try simp only [Act.put, List.setIfInBounds_toArray, List.set_cons_zero, List.set_cons_succ])
                                  refine wpAnyH_take (i := 20) (oi := ⟨some 110, _, _, _, _, _⟩) (v := ?_) rfl (by kernel_rfl) (by kernel_rfl) (by kernel_rfl) (fun _ _ _ h => h) (Or.inl ⟨by rfl, ?_⟩) (by assumption) ?_
                                  rotate_left
                                  · intro w hSw
                                    (try dsimp only at hSw)
                                    go_simp
                                    (try with_reducible rfl)
                                  (try simp only [Act.put, List.setIfInBounds_toArray, List.set_cons_zero, List.set_cons_succ])
                                  refine wpAnyH_ready (rs := [23]) (by kernel_rfl) (by simp) ?_
                                  refine AllReadyH.cons (o := ⟨some 113, _, _, _, _, _⟩) rfl (fun K hK => ?_) ?_
                                  · refine step_app_full (by rfl) (.tmp 110) (.tmp 112) (by rfl) _ bk xd _ (by rfl) (by rfl) HLV.out HR7.out hlen7 ?_
                                    intro v2 w8 hv2 hg2 hor2
                                    obtain ⟨⟨a2, n2, c2, rfl⟩, y0, y1, hS8, hS9, hy⟩ := HY.out _ _ hv2 hg2 hor2
                                    have HFin := Lib.hid hy
                                    clear hv2 hg2 hor2 hy
                                    refine hK.out _ _ ?_ (fun hHeld => ?_)
                                    · exact hS8
                                    clear hK K
                                    (try simp only [Act.put, List.setIfInBounds_toArray, List.set_cons_zero, List.set_cons_succ])
                                    refine wpAnyH_take (i := 24) (oi := ⟨some 114, _, _, _, _, _⟩) (v := ?_) rfl (by kernel_rfl) (by kernel_rfl) (by kernel_rfl) (fun _ _ _ h => h) (Or.inl ⟨by rfl, ?_⟩) (by assumption) ?_
                                    rotate_left
                                    · intro w hSw
                                      (try dsimp only at hSw)
                                      go_simp
                                      (try with_reducible rfl)
                                    (try simp only [Act.put, List.setIfInBounds_toArray, List.set_cons_zero, List.set_cons_succ])
                                    refine wpAnyH_ready (rs := [25]) (by kernel_rfl) (by simp) ?_
                                    refine AllReadyH.cons rfl (fun K hK => ?_) ?_
                                    · go_simp
                                      refine hK.out _ _ ?_ (fun hHeld => ?_)
                                      · exact hS9
                                      clear hK K
                                      (try simp only [Act.put, List.setIfInBounds_toArray, List.set_cons_zero, List.set_cons_succ])
                                      refine wpAnyH_done (by kernel_rfl) ?_ _
                                      go_wp2
                                      go_roundw
                                      case rel => exact ⟨m + 1, by omega, by go_num, HFin.out⟩
                                      case measure => simp [intOf]; omega
                                    · exact AllReadyH.nil
                                  · exact AllReadyH.nil
                                · exact AllReadyH.nil
                              · refine AllReadyH.cons (o := ⟨some 102, _, _, _, _, _⟩) rfl (fun K hK => ?_) ?_
                                · go_simp
                                  refine hK.out _ _ ?_ (fun hHeld => ?_)
                                  · exact ⟨jd1, jd4⟩
                                  clear hK K
                                  (try simp only [Act.put, List.setIfInBounds_toArray, List.set_cons_zero, List.set_cons_succ])
                                  refine wpAnyH_take (i := 13) (oi := ⟨some 103, _, _, _, _, _⟩) (v := ?_) rfl (by kernel_rfl) (by kernel_rfl) (by kernel_rfl) (fun _ _ _ h => h) (Or.inl ⟨by rfl, ?_⟩) (by assumption) ?_
                                  rotate_left
                                  · intro w hSw
                                    (try dsimp only at hSw)
                                    go_simp
                                    (try with_reducible rfl)
                                  (try simp only [Act.put, List.setIfInBounds_toArray, List.set_cons_zero, List.set_cons_succ])
                                  refine wpAnyH_ready (rs := [7]) (by kernel_rfl) (by simp) ?_
                                  refine AllReadyH.cons (o := ⟨some 97, _, _, _, _, _⟩) rfl (fun K hK => ?_) ?_
                                  · go_simp
                                    refine hK.out _ _ ?_ (fun hHeld => ?_)
                                    · exact ⟨jd1, jd4⟩
                                    clear hK K
                                    (try simp only [Act.put, List.setIfInBounds_toArray, List.set_cons_zero, List.set_cons_succ])
                                    refine wpAnyH_take (i := 20) (oi := ⟨some 110, _, _, _, _, _⟩) (v := ?_) rfl (by kernel_rfl) (by kernel_rfl) (by kernel_rfl) (fun _ _ _ h => h) (Or.inl ⟨by rfl, ?_⟩) (by assumption) ?_
                                    rotate_left
                                    · intro w hSw
                                      (try dsimp only at hSw)
                                      go_simp
                                      (try with_reducible rfl)
                                    (try simp only [Act.put, List.setIfInBounds_toArray, List.set_cons_zero, List.set_cons_succ])
                                    refine wpAnyH_ready (rs := [23]) (by kernel_rfl) (by simp) ?_
                                    refine AllReadyH.cons (o := ⟨some 113, _, _, _, _, _⟩) rfl (fun K hK => ?_) ?_
                                    · refine step_app_full (by rfl) (.tmp 110) (.tmp 112) (by rfl) _ bk xd _ (by rfl) (by rfl) HLV.out HR7.out hlen7 ?_
                                      intro v2 w8 hv2 hg2 hor2
                                      obtain ⟨⟨a2, n2, c2, rfl⟩, y0, y1, hS8, hS9, hy⟩ := HY.out _ _ hv2 hg2 hor2
                                      have HFin := Lib.hid hy
                                      clear hv2 hg2 hor2 hy
                                      refine hK.out _ _ ?_ (fun hHeld => ?_)
                                      · exact hS8
                                      clear hK K
                                      (try simp only [Act.put, List.setIfInBounds_toArray, List.set_cons_zero, List.set_cons_succ])
                                      refine wpAnyH_take (i := 24) (oi := ⟨some 114, _, _, _, _, _⟩) (v := ?_) rfl (by kernel_rfl) (by kernel_rfl) (by kernel_rfl) (fun _ _ _ h => h) (Or.inl ⟨by rfl, ?_⟩) (by assumption) ?_
                                      rotate_left
                                      · intro w hSw
                                        (try dsimp only at hSw)
                                        go_simp
                                        (try with_reducible rfl)
                                      (try simp only [Act.put, List.setIfInBounds_toArray, List.set_cons_zero, List.set_cons_succ])
                                      refine wpAnyH_ready (rs := [25]) (by kernel_rfl) (by simp) ?_
                                      refine AllReadyH.cons rfl (fun K hK => ?_) ?_
                                      · go_simp
                                        refine hK.out _ _ ?_ (fun hHeld => ?_)
                                        · exact hS9
                                        clear hK K
                                        (try simp only [Act.put, List.setIfInBounds_toArray, List.set_cons_zero, List.set_cons_succ])
                                        refine wpAnyH_done (by kernel_rfl) ?_ _
                                        go_wp2
                                        go_roundw
                                        case rel => exact ⟨m + 1, by omega, by go_num, HFin.out⟩
                                        case measure => simp [intOf]; omega
                                      · exact AllReadyH.nil
                                    · exact AllReadyH.nil
                                  · exact AllReadyH.nil
                                · exact AllReadyH.nil
                            · exact AllReadyH.nil
                · have hkm : KM w6 w0.heap.size la sa n0 F6 vs (zr.1.A.map Zn.b) (zr.1.A.map Zn.fl) := by rw [hsame]; exact HK6.out
                  have HF0 : Hid (∀ W, Below w6.heap.size w6 W → KpI w0 W p la sa n0 (m + 1)) := Lib.hid fun W hW => HCut.out _ W F6 vs (HD6.out.below hW) (hkm.below hW) Hdn.out (bnext HB6.out hW)
                  rw [hsame, hp1] at Hpt
                  clear hsame hp1 hkm
                  generalize D.A[k].b.length = bl at *
                  by_cases hx : xd = []
                  · have hz2 : zr.2 ≠ 0 ∧ zr.2 ≠ 74 := by
                      rcases hne with h | h
                      · exact absurd hx h
                      · exact h
                    have hef : (zr.2 == 0) = false := beq_eq_false_iff_ne.2 hz2.1
                    have hef2 : (zr.2 == 74) = false := beq_eq_false_iff_ne.2 hz2.2
                    have hx0 : xd.length = 0 := by rw [hx]; rfl
                    rw [hx0] at k4 dk4
                    clear hne hz2
                    go_upto_region 12 with (fail)
                    refine wp_region_quiet_below (by kernel_rfl) (by kernel_rfl) ?_; (repeat (go_big_quiet_step ((go_at_call 12; (with_reducible refine Calls.regrown_of (Hpt.out _ (Bq _ _))))))); refine wpQuiet_nil ?_; rintro _ ⟨pq, rfl⟩
                    have HF := Lib.hid (HF0.out _ (Bq pq.d pq.os))
                    go_wp2
                    go_roundw
                    case rel => exact ⟨m + 1, by omega, by go_num, HF.out⟩
                    case measure => simp [intOf]; omega
                  · have hlp : 0 < xd.length := List.length_pos_iff.2 hx
                    have hq1 : ((bl : Int) == (bl : Int) + (xd.length : Int)) = false := beq_eq_false_iff_ne.2 (by omega)
                    clear hne hx
                    go_upto_region 12 with (fail)
                    refine wp_region_quiet_below (by kernel_rfl) (by kernel_rfl) ?_; (repeat (go_big_quiet_step ((go_at_call 12; (with_reducible refine Calls.regrown_of (Hpt.out _ (Bq _ _))))))); refine wpQuiet_nil ?_; rintro _ ⟨pq, rfl⟩
                    have HF := Lib.hid (HF0.out _ (Bq pq.d pq.os))
                    go_wp2
                    go_roundw
                    case rel => exact ⟨m + 1, by omega, by go_num, HF.out⟩
                    case measure => simp [intOf]; omega
              · have hbad : D.down = true ∨ xz < 0 ∨ (D.n : Int) ≤ xz := by rw [EN.out]; omega
                have hzb := zapp_bad (m := xd) hbad
                have Hca := Lib.hid (HD4.out.append (D' := D) (er := zfnd D xz) hdb xz HRB4.out (by omega) hzb)
                clear hzb hbad
                generalize zfnd D xz = er at *
                go_wp2_with fail; (with_reducible refine (Hca.out).mono ?_); rintro e w6 ⟨rfl, ho6⟩
                have hb6 := ho6.below HD4.out
                have k1 := cell_blkz (j := 1) (ho6.2.block q4 hqb HFq.out.1)
                rw [c1] at k1
                have g6 := cell_next g0 _ (HB4.out.trans hb6)
                obtain ⟨⟨F6, hD6, hF6⟩, hc6⟩ := ho6
                have hK6 := HK4.out.dev hc6 hF6
                have HF0 : Hid (∀ W, Below w6.heap.size w6 W → KpI w0 W p la sa n0 (m + 1)) := Lib.hid fun W hW => HCut.out _ W F6 vs (hD6.below hW) (hK6.below hW) ⟨Nat.le_succ _, rfl⟩ (bnext (HB4.out.trans hb6) hW)
                have Bq := bnext_grow (Below.refl w6.heap.size w6)
                have dk1 := cell_next k1
                have dg6 := cell_next g6
                clear hD6 hF6 hc6 hK6 hb6 c0 c1 c2 c3 c4 c5 e0 Hca
                have h2 : xz < 0 ∨ (0 ≤ xz ∧ (n0 : Int) ≤ xz) := by omega
                clear hzr
                go_upto_region 12 with (fail)
                rcases h2 with h2 | ⟨h2, h3⟩
                · have q1 : decide (0 ≤ xz) = false := decide_eq_false (by omega)
                  have q2 : ¬ 0 ≤ xz := by omega
                  refine wp_region_quiet_below (by kernel_rfl) (by kernel_rfl) ?_; (repeat (go_big_quiet_step ((fail)))); refine wpQuiet_nil ?_; rintro _ ⟨pq, rfl⟩
                  have HF := Lib.hid (HF0.out _ (Bq pq.d pq.os))
                  go_wp2
                  go_roundw
                  case rel => exact ⟨m + 1, by omega, by go_num, HF.out⟩
                  case measure => simp [intOf]; omega
                · have q1 : decide (xz < (n0 : Int)) = false := decide_eq_false (by omega)
                  have q2 : ¬ xz < (n0 : Int) := by omega
                  refine wp_region_quiet_below (by kernel_rfl) (by kernel_rfl) ?_; (repeat (go_big_quiet_step ((fail)))); refine wpQuiet_nil ?_; rintro _ ⟨pq, rfl⟩
                  have HF := Lib.hid (HF0.out _ (Bq pq.d pq.os))
                  go_wp2
                  go_roundw
                  case rel => exact ⟨m + 1, by omega, by go_num, HF.out⟩
                  case measure => simp [intOf]; omega
          · as_aux_lemma =>
              have Hca := Lib.hid (HD4.out.reset (D' := (zrst D xz).1) (er := (zrst D xz).2) hdb xz rfl)
              have hmp := zrst_maps D xz HD4.out.lenA
              have Hdn := Lib.hid (zrst_dn D xz)
              generalize zrst D xz = zr at *
              go_wp2_with fail; (with_reducible refine (Hca.out).mono ?_); rintro e w6 ⟨rfl, ho6⟩
              have hb6 := ho6.below HD4.out
              have k1 := cell_blkz (j := 1) (ho6.2.block q4 hqb HFq.out.1)
              rw [c1] at k1
              obtain ⟨⟨F6, hD6, hF6⟩, hc6⟩ := ho6
              have hK6 := HK4.out.dev hc6 hF6
              have HB6 := Lib.hid (HB4.out.trans hb6)
              have HD6 := Lib.hid hD6
              have HK6 := Lib.hid hK6
              clear hD6 hF6 hc6 hK6 hb6 c0 c2 c3 c4 c5
              rcases hmp with ⟨h0, k, hke, hkn, hm1, hm2⟩ | ⟨h0, hA0⟩
              · subst hke
                rw [EN.out] at hkn
                obtain ⟨er0, er1⟩ := HK6.out.lcell k (by omega)
                obtain ⟨es0, es1⟩ := HK6.out.scell k (by rw [List.length_map]; omega)
                have HMa := Lib.hid (And.intro hm1 hm2)
                have hn1 := HFq.out.2.1
                have hn2 := HFq.out.2.2
                have hn3 := HK6.out.ne
                have hn4 : sa ≠ la := fun e => hn3 e.symm
                have hfin : ∀ W, (W = ((w6.drew.setCell ⟨la, k, none⟩ (.slice none 0 0)).setCell ⟨sa, k, none⟩ (.int .i64 0)) ∨ W = ((w6.drew.setCell ⟨sa, k, none⟩ (.int .i64 0)).setCell ⟨la, k, none⟩ (.slice none 0 0)) ∨ W = ((w6.setCell ⟨la, k, none⟩ (.slice none 0 0)).setCell ⟨sa, k, none⟩ (.int .i64 0)).drew ∨ W = ((w6.setCell ⟨sa, k, none⟩ (.int .i64 0)).setCell ⟨la, k, none⟩ (.slice none 0 0)).drew) → KpI w0 W p la sa n0 (m + 1) := fun W hW => by
                  have hd := HK6.out.below (Below.refl _ w6).drew
                  have key1 : ∀ V, KM V w0.heap.size la sa n0 F6 vs (D.A.map Zn.b) (D.A.map Zn.fl) → DI V w0.heap.size p F6 zr.1 → Below w0.heap.size w0 V → KM ((V.setCell ⟨la, k, none⟩ (.slice none 0 0)).setCell ⟨sa, k, none⟩ (.int .i64 0)) w0.heap.size la sa n0 F6 (vs.set k (.slice none 0 0)) (zr.1.A.map Zn.b) (zr.1.A.map Zn.fl) ∧ DI ((V.setCell ⟨la, k, none⟩ (.slice none 0 0)).setCell ⟨sa, k, none⟩ (.int .i64 0)) w0.heap.size p F6 zr.1 ∧ Below w0.heap.size w0 ((V.setCell ⟨la, k, none⟩ (.slice none 0 0)).setCell ⟨sa, k, none⟩ (.int .i64 0)) := fun V h1 h2 h3 => by
                    rw [HMa.out.1, HMa.out.2]
                    exact ⟨(h1.setL k (.slice none 0 0) [] (.inl ⟨rfl, rfl⟩) (fun y hy => by simp [Value.ownBlock] at hy)).setS k 0, (h2.chg (Chg.set V la k _) (fun y hy e => h1.fl (by rw [← e]; exact hy))).chg (Chg.set _ sa k _) (fun y hy e => h1.fs (by rw [← e]; exact hy)), (h3.setCell (p := ⟨la, k, none⟩) h1.lal.1 _).setCell (p := ⟨sa, k, none⟩) h1.sal.1 _⟩
                  have key2 : ∀ V, KM V w0.heap.size la sa n0 F6 vs (D.A.map Zn.b) (D.A.map Zn.fl) → DI V w0.heap.size p F6 zr.1 → Below w0.heap.size w0 V → KM ((V.setCell ⟨sa, k, none⟩ (.int .i64 0)).setCell ⟨la, k, none⟩ (.slice none 0 0)) w0.heap.size la sa n0 F6 (vs.set k (.slice none 0 0)) (zr.1.A.map Zn.b) (zr.1.A.map Zn.fl) ∧ DI ((V.setCell ⟨sa, k, none⟩ (.int .i64 0)).setCell ⟨la, k, none⟩ (.slice none 0 0)) w0.heap.size p F6 zr.1 ∧ Below w0.heap.size w0 ((V.setCell ⟨sa, k, none⟩ (.int .i64 0)).setCell ⟨la, k, none⟩ (.slice none 0 0)) := fun V h1 h2 h3 => by
                    rw [HMa.out.1, HMa.out.2]
                    exact ⟨(h1.setS k 0).setL k (.slice none 0 0) [] (.inl ⟨rfl, rfl⟩) (fun y hy => by simp [Value.ownBlock] at hy), (h2.chg (Chg.set V sa k _) (fun y hy e => h1.fs (by rw [← e]; exact hy))).chg (Chg.set _ la k _) (fun y hy e => h1.fl (by rw [← e]; exact hy)), (h3.setCell (p := ⟨sa, k, none⟩) h1.sal.1 _).setCell (p := ⟨la, k, none⟩) h1.lal.1 _⟩
                  have hdd := HD6.out.below (Below.refl _ w6).drew
                  rcases hW with rfl | rfl | rfl | rfl
                  · obtain ⟨a1, a2, a3⟩ := key1 _ hd hdd HB6.out.drew
                    exact HCut.out _ _ F6 _ a2 a1 Hdn.out a3
                  · obtain ⟨a1, a2, a3⟩ := key2 _ hd hdd HB6.out.drew
                    exact HCut.out _ _ F6 _ a2 a1 Hdn.out a3
                  · obtain ⟨a1, a2, a3⟩ := key1 _ HK6.out HD6.out HB6.out
                    exact HCut.out _ _ F6 _ (a2.below (Below.refl _ _).drew) (a1.below (Below.refl _ _).drew) Hdn.out a3.drew
                  · obtain ⟨a1, a2, a3⟩ := key2 _ HK6.out HD6.out HB6.out
                    exact HCut.out _ _ F6 _ (a2.below (Below.refl _ _).drew) (a1.below (Below.refl _ _).drew) Hdn.out a3.drew
                have HFin := Lib.hid hfin
                have her : (zr.2 == 0) = true := by rw [beq_iff_eq]; exact h0
                have hn5 : ¬ q4 = la := fun e => HFq.out.2.1 e.symm
                have hn6 : ¬ q4 = sa := fun e => HFq.out.2.2 e.symm
                clear hm1 hm2 hfin h0 e0
                go_upto_region 16 with (fail)
                go_region
                all_goals
                  go_wp2
                  go_roundw
                  case rel => exact ⟨m + 1, by omega, by go_num, HFin.out _ (by first | exact .inl rfl | exact .inr (.inl rfl) | exact .inr (.inr (.inl rfl)) | exact .inr (.inr (.inr rfl)))⟩
                  case measure => simp [intOf]; omega
              · have her : (zr.2 == 0) = false := beq_eq_false_iff_ne.2 h0
                have hkm : KM w6 w0.heap.size la sa n0 F6 vs (zr.1.A.map Zn.b) (zr.1.A.map Zn.fl) := by rw [hA0]; exact HK6.out
                have HF := Lib.hid (HCut.out _ w6 F6 vs HD6.out hkm Hdn.out HB6.out)
                clear hA0 hkm h0
                go_wp2
                go_roundw
                case rel => exact ⟨m + 1, by omega, by go_num, HF.out⟩
                case measure => simp [intOf]; omega
          · as_aux_lemma =>
              have Hca := Lib.hid (HD4.out.finish (D' := (zfin D xz).1) (er := (zfin D xz).2) hdb xz rfl)
              obtain ⟨hm1, hm2⟩ := zfin_maps D xz
              have Hdn := Lib.hid (zfin_dn D xz)
              generalize zfin D xz = zr at *
              have HMa := Lib.hid (And.intro hm1 hm2)
              clear hm1 hm2
              go_wp2_with fail; (with_reducible refine (Hca.out).mono ?_); rintro e w6 ⟨rfl, ho6⟩
              have hb6 := ho6.below HD4.out
              obtain ⟨⟨F6, hD6, hF6⟩, hc6⟩ := ho6
              have hK6 := HK4.out.dev hc6 hF6
              rw [← HMa.out.1, ← HMa.out.2] at hK6
              have HF := Lib.hid (HCut.out _ w6 F6 vs hD6 hK6 Hdn.out (HB4.out.trans hb6))
              clear hD6 hF6 hc6 hK6 hb6
              go_wp2
              go_roundw
              case rel => exact ⟨m + 1, by omega, by go_num, HF.out⟩
              case measure => simp [intOf]; omega
          · as_aux_lemma =>
              have Hca := Lib.hid (HD4.out.flush (D' := (zflu D).1) (er := (zflu D).2) hdb rfl)
              have hmp := zflu_maps D
              have Hdn := Lib.hid (zflu_dn D)
              generalize zflu D = zr at *
              go_wp2_with fail; (with_reducible refine (Hca.out).mono ?_); rintro e w6 ⟨rfl, ho6⟩
              have hb6 := ho6.below HD4.out
              obtain ⟨⟨F6, hD6, hF6⟩, hc6⟩ := ho6
              have hK6 := HK4.out.dev hc6 hF6
              have HB6 := Lib.hid (HB4.out.trans hb6)
              have HD6 := Lib.hid hD6
              have HK6 := Lib.hid hK6
              clear hD6 hF6 hc6 hK6 hb6 c0 c1 c2 c3 c4 c5 e0
              rcases hmp with ⟨h0, hm1, hm2⟩ | ⟨h0, hA0⟩
              · have her : (zr.2 == 0) = true := by rw [beq_iff_eq]; exact h0
                have HMa := Lib.hid (And.intro hm1 hm2)
                have hbl64 : ∀ i (h : i < D.A.length), D.A[i].b.length ≤ 65536 := fun i h => by
                  have h1 := (HD4.out.ok.zs _ (List.getElem_mem h)).len
                  have h2 := HD4.out.ok.s2
                  omega
                have HBL := Lib.hid hbl64
                clear hm1 hm2 h0 hbl64
                go_wp2
                generalize wr = wR at *
                go_loopw [143] (fun i wr => ∃ (k : Nat) (S' : List Nat), k ≤ n0 ∧ i = .int .i64 k ∧ KM wr w0.heap.size la sa n0 F6 vs (D.A.map Zn.b) S' ∧ (∀ j (h : j < S'.length) (h2 : j < D.A.length), j < k → S'[j] = D.A[j].b.length) ∧ DI wr w0.heap.size p F6 zr.1 ∧ Below w0.heap.size w0 wr) (fun i _ => n0 - (intOf i).toNat)
                case atStart => exact ⟨0, _, Nat.zero_le _, rfl, HK6.out, fun j h h2 h3 => by omega, HD6.out, HB6.out⟩
                case round =>
                  clear HK6 HD6 HB6
                  obtain ⟨k, S', hk, rfl, hK, hS, hD, hbx⟩ := hrel
                  have HK := Lib.hid hK
                  have HS := Lib.hid hS
                  have HD := Lib.hid hD
                  have HBX := Lib.hid hbx
                  clear hK hS hD hbx
                  by_cases hlt2 : k < n0
                  · have hkA : k < D.A.length := by omega
                    have hkv : k < vs.length := by omega
                    have hkL : k < (D.A.map Zn.b).length := by rw [List.length_map]; exact hkA
                    have hkS : k < S'.length := by rw [HK.out.sl]; exact hlt2
                    obtain ⟨av, cv, hve, hcv, _⟩ := HK.out.lv' k hkv hkL
                    obtain ⟨er0, er1⟩ := HK.out.lcell k hkv
                    obtain ⟨es0, es1⟩ := HK.out.scell k hkS
                    rw [hve] at er0
                    have hbk : (D.A.map Zn.b)[k] = D.A[k].b := List.getElem_map _
                    rw [hbk] at er0
                    have hbl := HBL.out k hkA
                    have HF : Hid (KM (wr.setCell ⟨sa, k, none⟩ (.int .i64 (D.A[k].b.length : Nat))) w0.heap.size la sa n0 F6 vs (D.A.map Zn.b) (S'.set k D.A[k].b.length) ∧ (∀ j (h : j < (S'.set k D.A[k].b.length).length) (h2 : j < D.A.length), j < k + 1 → (S'.set k D.A[k].b.length)[j] = D.A[j].b.length) ∧ DI (wr.setCell ⟨sa, k, none⟩ (.int .i64 (D.A[k].b.length : Nat))) w0.heap.size p F6 zr.1 ∧ Below w0.heap.size w0 (wr.setCell ⟨sa, k, none⟩ (.int .i64 (D.A[k].b.length : Nat)))) := Lib.hid ⟨HK.out.setS k _, fun j h h2 h3 => by
                      rw [List.getElem_set]
                      split
                      · rename_i e; subst e; rfl
                      · exact HS.out j (by simpa using h) h2 (by omega), HD.out.chg (Chg.set wr sa k _) (fun y hy e => HK.out.fs (by rw [← e]; exact hy)), HBX.out.setCell (p := ⟨sa, k, none⟩) HK.out.sal.1 _⟩
                    have hne2 := HK.out.ne
                    clear hve hbk hcv
                    generalize hgl : D.A[k].b.length = bl at *
                    clear hgl
                    go_wp2
                    go_roundw
                    case rel => exact ⟨k + 1, _, by omega, by go_num, HF.out.1, HF.out.2.1, HF.out.2.2.1, HF.out.2.2.2⟩
                    case measure => simp [intOf]; omega
                  · have hSe : S' = zr.1.A.map Zn.fl := by
                      rw [HMa.out.2]
                      refine List.ext_getElem (by rw [List.length_map, HK.out.sl]; omega) fun j h1 h2 => ?_
                      rw [List.length_map] at h2
                      rw [HS.out j h1 h2 (by omega)]
                      simp
                    have hkm : KM wr w0.heap.size la sa n0 F6 vs (zr.1.A.map Zn.b) (zr.1.A.map Zn.fl) := by rw [HMa.out.1, ← hSe]; exact HK.out
                    have HF := Lib.hid (HCut.out _ wr F6 vs HD.out hkm Hdn.out HBX.out)
                    clear hSe hkm
                    go_wp2
                    go_roundw
                    case rel => exact ⟨m + 1, by omega, by go_num, HF.out⟩
                    case measure => simp [intOf]; omega
              · have her : (zr.2 == 0) = false := beq_eq_false_iff_ne.2 h0
                have hkm : KM w6 w0.heap.size la sa n0 F6 vs (zr.1.A.map Zn.b) (zr.1.A.map Zn.fl) := by rw [hA0]; exact HK6.out
                have HF := Lib.hid (HCut.out _ w6 F6 vs HD6.out hkm Hdn.out HB6.out)
                clear hA0 hkm h0
                go_wp2
                go_roundw
                case rel => exact ⟨m + 1, by omega, by go_num, HF.out⟩
                case measure => simp [intOf]; omega
          · as_aux_lemma =>
              have Hca := Lib.hid (HD4.out.arm xn HNB.out)
              go_wp2_with fail; (with_reducible refine (Hca.out).mono ?_); rintro e w6 ⟨rfl, ho6⟩
              have hb6 := ho6.below HD4.out
              obtain ⟨⟨F6, hD6, hF6⟩, hc6⟩ := ho6
              have hK6 := HK4.out.dev hc6 hF6
              have HF := Lib.hid (HCut.out _ w6 F6 vs hD6 hK6 ⟨Nat.le_succ _, rfl⟩ (HB4.out.trans hb6))
              clear hD6 hF6 hc6 hK6 hb6
              go_wp2
              go_roundw
              case rel => exact ⟨m + 1, by omega, by go_num, HF.out⟩
              case measure => simp [intOf]; omega
          · as_aux_lemma =>
              have Hca := Lib.hid (HD4.out.crash (ck := xkc) HKZ4.out rfl (by omega) (fun hp b off e hf => by have h1 : b < w0.heap.size := KZ.lt HKZ0.out hp b off e; have h2 := (HD4.out.ge _ hf).1; omega) rfl)
              have hat := fun i (hi : i < D.A.length) => zcrs_at D xke i hi (HD4.out.ok.zs _ (List.getElem_mem hi)).fl
              have HAt := Lib.hid hat
              have hbl64 : ∀ i (h : i < D.A.length), D.A[i].b.length ≤ 65536 := fun i h => by
                have h1 := (HD4.out.ok.zs _ (List.getElem_mem h)).len
                have h2 := HD4.out.ok.s2
                omega
              have HBL := Lib.hid hbl64
              have hdw : (zcrs D xke).down = false := rfl
              have Hdn : Hid ((zcrs D xke).done ≤ D.done + 1 ∧ (zcrs D xke).n = D.n) := Lib.hid ⟨Nat.le_succ _, rfl⟩
              have hDn : (zcrs D xke).n = n0 := EN.out
              have hDl : (zcrs D xke).A.length = n0 := by simp [zcrs]; exact hlA
              have HDn := Lib.hid hDn
              have HDl := Lib.hid hDl
              have HDw := Lib.hid hdw
              clear hat hbl64 hdw hDn hDl
              generalize zcrs D xke = D' at *
              go_wp2_with fail; (with_reducible refine (Hca.out).mono ?_); rintro e w6 ⟨rfl, ho6⟩
              have hb6 := ho6.below HD4.out
              obtain ⟨⟨F6, hD6, hF6⟩, hc6⟩ := ho6
              have hK6 := HK4.out.dev hc6 hF6
              have HB6 := Lib.hid (HB4.out.trans hb6)
              have HD6 := Lib.hid hD6
              have HK6 := Lib.hid hK6
              clear hD6 hF6 hc6 hK6 hb6 c0 c1 c2 c3 c4 c5 e0
              go_wp2
              generalize wr = wR at *
              go_loopw [169] (fun i wr => ∃ (k : Nat) (vs' : List Value) (L' : List (List UInt8)) (S' : List Nat), k ≤ n0 ∧ i = .int .i64 k ∧ KM wr w0.heap.size la sa n0 F6 vs' L' S' ∧ (∀ j (h : j < L'.length) (h2 : j < S'.length) (h3 : j < D.A.length) (h4 : j < D'.A.length), (j < k → L'[j] = D'.A[j].b ∧ S'[j] = D'.A[j].fl) ∧ (k ≤ j → L'[j] = D.A[j].b ∧ S'[j] = D.A[j].fl)) ∧ DI wr w0.heap.size p F6 D' ∧ Below w0.heap.size w0 wr) (fun i _ => n0 - (intOf i).toNat)
              case atStart => exact ⟨0, vs, _, _, Nat.zero_le _, rfl, HK6.out, fun j h h2 h3 h4 => ⟨fun h5 => by omega, fun _ => ⟨by simp, by simp⟩⟩, HD6.out, HB6.out⟩
              case round =>
                clear HK6 HD6 HB6
                obtain ⟨k, vs', L', S', hk, rfl, hK, hS, hD, hbx⟩ := hrel
                have HK := Lib.hid hK
                have HS := Lib.hid hS
                have HD := Lib.hid hD
                have HBX := Lib.hid hbx
                have hvl' := hK.vl
                have hll' := hK.ll
                have hsl' := hK.sl
                clear hK hS hD hbx
                by_cases hlt2 : k < n0
                · have hkA : k < D.A.length := by omega
                  have hkv : k < vs'.length := by omega
                  have hkL : k < L'.length := by omega
                  have hkS : k < S'.length := by omega
                  have hkD : k < D'.A.length := by rw [HDl.out]; exact hlt2
                  obtain ⟨hLk, hSk⟩ := (HS.out k hkL hkS hkA hkD).2 (Nat.le_refl _)
                  obtain ⟨nn, _, hn1, hn2, hn3, hn4⟩ := HAt.out k hkA
                  have hbl := HBL.out k hkA
                  have hrd := HD.out.read k 0 nn
                  have hzr : zread D' k 0 nn = (D.A[k].b.take nn, 0) := by
                    rw [zread_in HDw.out (by rw [HDn.out]; exact hlt2) hkD, hn3]
                    unfold zrdb
                    rw [if_neg (by rw [List.length_take]; omega)]
                    simp [List.take_take]
                  rw [hzr] at hrd
                  have hpt := HD.out.pointer k
                  rw [zpt_at k hkD, hn3, List.length_take, Nat.min_eq_left hn2] at hpt
                  have Hfl : Hid (∀ W, Below wr.heap.size wr W → Calls Try.prog 21 #[.pointer (some ⟨p, 0, none⟩), .int .i64 k] W fun e w' => e = .returned (.int .i64 nn) ∧ W = w') := Lib.hid fun W hW => by
                    have := (HD.out.below hW).flushed k
                    rw [zfl_at k hkD, hn4] at this
                    exact this
                  obtain ⟨av, cv, hve, hcv, hav⟩ := HK.out.lv' k hkv hkL
                  have hlv := HK.out.lv k hkv hkL
                  rw [hve] at hlv
                  rw [hLk] at hve hcv hav hlv
                  have Hve := Lib.hid hve
                  have Hlv := Lib.hid hlv
                  have Hrd := Lib.hid hrd
                  have Hpt := Lib.hid hpt
                  have Hav := Lib.hid hav
                  have HN3 := Lib.hid (And.intro hn3 hn4)
                  have HSk := Lib.hid hSk
                  clear hzr hrd hpt hve hlv hav hn3 hn4 hSk hLk
                  generalize hgb : D.A[k].b = bk at *
                  generalize hgf : D.A[k].fl = fk at *
                  clear hgb hgf
                  go_wp2_with fail; (with_reducible refine (Hpt.out).mono ?_); rintro e wr ⟨rfl, rfl⟩
                  go_wp2_with fail; (with_reducible refine (Hrd.out).mono ?_); rintro e w7 ⟨v2, rfl, ho7, hb7⟩
                  obtain ⟨a2, c2, rfl, _⟩ := ho7.reads.shape
                  have hl2 : (bk.take nn).length = nn := by rw [List.length_take]; omega
                  have hK7 := HK.out.below hb7
                  obtain ⟨er0, er1⟩ := hK7.lcell k hkv
                  obtain ⟨es0, es1⟩ := hK7.scell k hkS
                  rw [Hve.out] at er0
                  rw [HSk.out] at es0
                  have hsm : RB w7 (.slice av nn cv) (bk.take nn) := by
                    rcases Hlv.out with ⟨e1, e2⟩ | ⟨b', off', c', e1, e2, e3, e4⟩
                    · subst e2
                      simp only [List.length_nil] at hn2
                      obtain rfl : nn = 0 := by omega
                      exact RB.nil _ _ _
                    · simp only [Value.slice.injEq] at e1
                      obtain ⟨rfl, _, rfl⟩ := e1
                      exact rb_take (e4.below hb7) hn2 (by omega)
                  have Hs := Lib.hid (same_b ho7.reads hsm true (by simp))
                  have hcf : ∀ y, (Value.slice a2 (bk.take nn).length c2).ownBlock = some y → y < w7.heap.size ∧ y ≠ la ∧ y ≠ sa ∧ ¬ F6 y := fun y hy => by
                    obtain ⟨h1, h2⟩ := ho7.lt hy
                    refine ⟨h2, fun e => ?_, fun e => ?_, fun hf => ?_⟩
                    · have := HK.out.lal.2; omega
                    · have := HK.out.sal.2; omega
                    · have := (HD.out.ge _ hf).2; omega
                  have HF : Hid (∀ W, Below w7.heap.size w7 W → KM ((W.setCell ⟨la, k, none⟩ (.slice a2 nn c2)).setCell ⟨sa, k, none⟩ (.int .i64 (nn : Nat))) w0.heap.size la sa n0 F6 (vs'.set k (.slice a2 nn c2)) (L'.set k (bk.take nn)) (S'.set k nn) ∧ DI ((W.setCell ⟨la, k, none⟩ (.slice a2 nn c2)).setCell ⟨sa, k, none⟩ (.int .i64 (nn : Nat))) w0.heap.size p F6 D' ∧ Below w0.heap.size w0 ((W.setCell ⟨la, k, none⟩ (.slice a2 nn c2)).setCell ⟨sa, k, none⟩ (.int .i64 (nn : Nat)))) := Lib.hid fun W hW => by
                    have hKW := hK7.below hW
                    have hlvW : LV W (.slice a2 nn c2) (bk.take nn) := by
                      have := (LV.own ho7).chg (F := fun _ => False) (Chg.of_below hW) (fun _ _ h => h)
                      rw [hl2] at this
                      exact this
                    have h1 := (hKW.setL k _ _ hlvW (fun y hy => by
                      obtain ⟨a1, a2', a3, a4⟩ := hcf y (by rw [hl2]; exact hy)
                      exact ⟨Nat.lt_of_lt_of_le a1 hW.size, a2', a3, a4⟩)).setS k nn
                    exact ⟨h1, ((HD.out.below (bnext hb7 hW)).chg (Chg.set W la k _) (fun y hy e => hKW.fl (by rw [← e]; exact hy))).chg (Chg.set _ sa k _) (fun y hy e => hKW.fs (by rw [← e]; exact hy)), ((bnext HBX.out (bnext hb7 hW)).setCell (p := ⟨la, k, none⟩) hKW.lal.1 _).setCell (p := ⟨sa, k, none⟩) hKW.sal.1 _⟩
                  have HS2 : Hid (∀ j (h : j < (L'.set k (bk.take nn)).length) (h2 : j < (S'.set k nn).length) (h3 : j < D.A.length) (h4 : j < D'.A.length), (j < k + 1 → (L'.set k (bk.take nn))[j] = D'.A[j].b ∧ (S'.set k nn)[j] = D'.A[j].fl) ∧ (k + 1 ≤ j → (L'.set k (bk.take nn))[j] = D.A[j].b ∧ (S'.set k nn)[j] = D.A[j].fl)) := Lib.hid fun j h h2 h3 h4 => by
                    rw [List.length_set] at h h2
                    rw [List.getElem_set, List.getElem_set]
                    by_cases e : k = j
                    · subst e
                      refine ⟨fun _ => ?_, fun h5 => by omega⟩
                      rw [if_pos rfl, if_pos rfl]
                      exact ⟨HN3.out.1.symm, HN3.out.2.symm⟩
                    · rw [if_neg e, if_neg e]
                      obtain ⟨x1, x2⟩ := HS.out j h h2 h3 h4
                      exact ⟨fun h5 => x1 (by omega), fun h5 => x2 (by omega)⟩
                  have HFl7 := Lib.hid (Hfl.out _ hb7)
                  have cr0 := cell_next er0
                  have cs0 := cell_next es0
                  have hne2 := HK.out.ne
                  have hne3 : ¬ sa = la := fun e => hne2 e.symm
                  have HK7 := Lib.hid hK7
                  have HFL := Lib.hid (fun W hW => Hfl.out W (bnext hb7 hW))
                  simp only [hl2] at Hs ⊢
                  clear ho7 hb7 hsm hcf hl2 hK7 Hrd Hpt Hfl
                  rcases Hav.out with ⟨rfl, rfl, hbn⟩ | ⟨b', off', rfl, hcm⟩
                  · subst hbn
                    simp only [List.length_nil] at hn2 er0 cr0
                    obtain rfl : nn = 0 := by omega
                    go_wp2_with fail; (with_reducible refine (Hs.out).mono ?_); rintro e w8 ⟨rfl, hb8⟩
                    have er2 := (HK7.out.below hb8).lcell k hkv
                    have es2 := (HK7.out.below hb8).scell k hkS
                    rw [Hve.out] at er2
                    rw [HSk.out] at es2
                    obtain ⟨er20, er21⟩ := er2
                    obtain ⟨es20, es21⟩ := es2
                    simp only [List.length_nil] at er20
                    have HFx := Lib.hid (HF.out _ hb8)
                    go_wp2_with fail; (with_reducible refine (HFL.out _ hb8).mono ?_); rintro e w8 ⟨rfl, rfl⟩
                    clear hb8
                    go_wp2
                    go_roundw
                    case rel => exact ⟨k + 1, _, _, _, by omega, by go_num, HFx.out.1, HS2.out, HFx.out.2.1, HFx.out.2.2⟩
                    case measure => simp [intOf]; omega
                  · unfold maxLen at hcm
                    go_wp2_with fail; (with_reducible refine (Hs.out).mono ?_); rintro e w8 ⟨rfl, hb8⟩
                    have er2 := (HK7.out.below hb8).lcell k hkv
                    have es2 := (HK7.out.below hb8).scell k hkS
                    rw [Hve.out] at er2
                    rw [HSk.out] at es2
                    obtain ⟨er20, er21⟩ := er2
                    obtain ⟨es20, es21⟩ := es2
                    have HFx := Lib.hid (HF.out _ hb8)
                    go_wp2_with fail; (with_reducible refine (HFL.out _ hb8).mono ?_); rintro e w8 ⟨rfl, rfl⟩
                    clear hb8
                    go_wp2
                    go_roundw
                    case rel => exact ⟨k + 1, _, _, _, by omega, by go_num, HFx.out.1, HS2.out, HFx.out.2.1, HFx.out.2.2⟩
                    case measure => simp [intOf]; omega
                · have e1 : L' = D'.A.map Zn.b := List.ext_getElem (by rw [List.length_map, HDl.out]; exact hll') fun j h1 h2 => by
                    rw [List.length_map] at h2
                    rw [((HS.out j h1 (by omega) (by omega) h2).1 (by omega)).1]; simp
                  have e2 : S' = D'.A.map Zn.fl := List.ext_getElem (by rw [List.length_map, HDl.out]; exact hsl') fun j h1 h2 => by
                    rw [List.length_map] at h2
                    rw [((HS.out j (by omega) h1 (by omega) h2).1 (by omega)).2]; simp
                  have hkm := HK.out
                  rw [e1, e2] at hkm
                  have HF := Lib.hid (HCut.out _ wr F6 vs' HD.out hkm Hdn.out HBX.out)
                  clear e1 e2 hkm
                  go_wp2
                  go_roundw
                  case rel => exact ⟨m + 1, by omega, by go_num, HF.out⟩
                  case measure => simp [intOf]; omega
          · as_aux_lemma =>
              have HF := Lib.hid (HCut.out _ w4 F vs HD4.out HK4.out ⟨Nat.le_succ _, rfl⟩ HB4.out)
              go_wp2
              go_roundw
              case rel => exact ⟨m + 1, by omega, by go_num, HF.out⟩
              case measure => simp [intOf]; omega
        · go_wp2_with fail; (with_reducible refine (awake07 _).mono ?_); rintro e w4 ⟨rfl, hb4⟩
          go_wp2
          go_ret
          exact ⟨rfl, by rw [HQ.out]; exact HB0.out.trans ((bnext hbr hb4).mono HS0.out)⟩
end Go.Proofs.Ytijgbciaifdbeaa
