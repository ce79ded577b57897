/- Chapter 14: VlogReads. -/
import Derived.Test.YtmhklmecpbdljaaDoorYVi1
import Derived.Test.YtmhklmecpbdljaaDoorYVp1
namespace Go.Proofs.YtmhklmecpbdljaaDoor
open Go.RowKit
set_option linter.unusedVariables false
set_option linter.unusedSimpArgs false

theorem cells8n {w : World} {a b c d e f g i : Value} {T : TypeId} : (w.alloc (.cells #[a, b, c, d, e, f, g, i] T)).cell? ⟨w.heap.size, 0, none⟩ = some a ∧ (w.alloc (.cells #[a, b, c, d, e, f, g, i] T)).cell? ⟨w.heap.size, 1, none⟩ = some b ∧ (w.alloc (.cells #[a, b, c, d, e, f, g, i] T)).cell? ⟨w.heap.size, 2, none⟩ = some c ∧ (w.alloc (.cells #[a, b, c, d, e, f, g, i] T)).cell? ⟨w.heap.size, 3, none⟩ = some d ∧ (w.alloc (.cells #[a, b, c, d, e, f, g, i] T)).cell? ⟨w.heap.size, 4, none⟩ = some e ∧ (w.alloc (.cells #[a, b, c, d, e, f, g, i] T)).cell? ⟨w.heap.size, 5, none⟩ = some f ∧ (w.alloc (.cells #[a, b, c, d, e, f, g, i] T)).cell? ⟨w.heap.size, 6, none⟩ = some g ∧ (w.alloc (.cells #[a, b, c, d, e, f, g, i] T)).cell? ⟨w.heap.size, 7, none⟩ = some i := by
  have h := heap_alloc_new w (.cells #[a, b, c, d, e, f, g, i] T)
  refine ⟨?_, ?_, ?_, ?_, ?_, ?_, ?_, ?_⟩ <;> (rw [cell_of_row _ _ _ _ _ _ h]; rfl)
set_option maxRecDepth 100000 in
set_option maxHeartbeats 16000000 in
theorem law14_r {w0 : World} (hT0 : Tab9 w0) {a ra : Option Addr} {c rc : Nat} {l : List It} {R : List UInt8} (h0 : VIs w0 a l) (hl : l.length ≤ maxLen) (hR0 : RB w0 (.slice ra R.length rc) R) (hRm : R.length ≤ maxLen) (z at' n : Int) (u : ByteArray) (s k : Int) (hu : u.size ≤ maxLen) :
    Calls Tryd.prog 3 #[.agg #[.slice a l.length c, .slice ra R.length rc, .int .i64 z, .int .i64 at', .int .i64 n, .string u, .int .i64 s, .int .i64 k]] w0 fun e w' => e = .returned (.bool true) ∧ Below w0.heap.size w0 w' := by
  have hlm := hl
  have hum := hu
  unfold maxLen at hl hu hRm
  obtain ⟨q0, q1, q2, q3, q4, q5, q6, q7⟩ := cells8n (w := w0) (a := .slice a l.length c) (b := .slice ra R.length rc) (c := .int .i64 z) (d := .int .i64 at') (e := .int .i64 n) (f := .string u) (g := .int .i64 s) (i := .int .i64 k) (T := 29)
  have HB0 : Hid (Below w0.heap.size w0 (w0.alloc (.cells #[.slice a l.length c, .slice ra R.length rc, .int .i64 z, .int .i64 at', .int .i64 n, .string u, .int .i64 s, .int .i64 k] 29))) := Lib.hid ((Below.refl _ w0).alloc (Nat.le_refl _) _)
  have Q0 := Lib.hid (cell_next q0)
  have Q1 := Lib.hid (cell_next q1)
  have Q2 := Lib.hid (cell_next q2)
  have Q3 := Lib.hid (cell_next q3)
  have Q4 := Lib.hid (cell_next q4)
  have Q5 := Lib.hid (cell_next q5)
  have Q6 := Lib.hid (cell_next q6)
  have Q7 := Lib.hid (cell_next q7)
  have HT := Lib.hid (hT0.below HB0.out)
  have H := Lib.hid (h0.below HB0.out)
  have HR := Lib.hid (hR0.below HB0.out)
  clear q0 q1 q2 q3 q4 q5 q6 q7 hT0 h0 hR0
  go_enter Tryd.func3, Tryd.ntmps3
  go_upto_region 1 with (fail)
  generalize w0.alloc (.cells #[.slice a l.length c, .slice ra R.length rc, .int .i64 z, .int .i64 at', .int .i64 n, .string u, .int .i64 s, .int .i64 k] 29) = w at *
  go_wp2_with fail; (with_reducible refine (device14 w).mono ?_); rintro e w1 ⟨p, F1, rfl, hD1, hb1⟩
  have HB1 := Lib.hid hb1
  have HD1 := Lib.hid hD1
  have c0 := Q0.out _ hb1
  have hsm : Calls Tryd.prog 10 #[.slice a l.length c] w1 (Small14 w1 l) := small14 (H.out.below hb1) hlm
  have HSm := Lib.hid hsm
  clear hb1 hD1 hsm
  go_wp2_with fail; (with_reducible refine (HSm.out).mono ?_); rintro e w2 ⟨sm, rfl, hsz, hb2⟩
  have HB2 := Lib.hid (HB1.out.trans (hb2.mono HB1.out.size))
  have HD2 := Lib.hid (HD1.out.below hb2)
  have c1 := Q1.out _ HB2.out
  have c5 := Q5.out _ HB2.out
  have HA := Lib.hid (awake14 (HT.out.below HB2.out))
  have HSZ := Lib.hid hsz
  clear hb2 hsz HSm HD1 HB1 c0
  have h4 : sm = false ∨ (sm = true ∧ 100 < R.length) ∨ (sm = true ∧ R.length ≤ 100 ∧ 200 < u.size) ∨ (sm = true ∧ R.length ≤ 100 ∧ u.size ≤ 200) := by
    cases sm with
    | false => exact .inl rfl
    | true =>
      rcases Nat.lt_or_ge 100 R.length with h | h
      · exact .inr (.inl ⟨rfl, h⟩)
      · rcases Nat.lt_or_ge 200 u.size with h2 | h2
        · exact .inr (.inr (.inl ⟨rfl, h, h2⟩))
        · exact .inr (.inr (.inr ⟨rfl, h, h2⟩))
  rcases h4 with rfl | ⟨rfl, h1⟩ | ⟨rfl, h1, h2⟩ | ⟨rfl, h1, h2⟩
  · go_wp2_with fail; (with_reducible refine (HA.out).mono ?_); rintro e w3 ⟨rfl, hb3⟩
    go_wp2
    go_ret
    exact ⟨rfl, HB0.out.trans ((HB2.out.trans (hb3.mono HB2.out.size)).mono HB0.out.size)⟩
  · go_wp2_with fail; (with_reducible refine (HA.out).mono ?_); rintro e w3 ⟨rfl, hb3⟩
    go_wp2
    go_ret
    exact ⟨rfl, HB0.out.trans ((HB2.out.trans (hb3.mono HB2.out.size)).mono HB0.out.size)⟩
  · go_wp2_with fail; (with_reducible refine (HA.out).mono ?_); rintro e w3 ⟨rfl, hb3⟩
    go_wp2
    go_ret
    exact ⟨rfl, HB0.out.trans ((HB2.out.trans (hb3.mono HB2.out.size)).mono HB0.out.size)⟩
  · obtain ⟨hsmall, hlc⟩ := HSZ.out.1 rfl
    have HSmall := Lib.hid hsmall
    have hba := (Below.refl w2.heap.size w2).alloc (Nat.le_refl _) (.cells #[.int .i64 0] 3)
    have HBA := Lib.hid hba
    have hnew : Calls Tryd.prog 12 #[.pointer (some ⟨p, 0, none⟩), .slice (some ⟨w2.heap.size, 0, none⟩) 1 1] (w2.alloc (.cells #[.int .i64 0] 3)) fun e w' => ∃ q F, e = .returned (.pointer (some ⟨q, 0, none⟩)) ∧ LI w' w.heap.size q p F (dv0 4 400 4) ([] ++ [0]) ∧ Below (w2.alloc (.cells #[.int .i64 0] 3)).heap.size (w2.alloc (.cells #[.int .i64 0] 3)) w' := lnew (zs := [0]) (c := 1) (HD2.out.below hba) (kz_one w2 0) (fun h => by simp at h) (by decide)
    have HNew := Lib.hid hnew
    clear hnew hba hsmall HA
    go_wp2_with fail; (with_reducible refine (HNew.out).mono ?_); rintro e w3 ⟨q, F3, rfl, hL3, hb3⟩
    have HL3 := Lib.hid hL3
    have HB3 := Lib.hid (HB2.out.trans ((HBA.out.trans (hb3.mono HBA.out.size)).mono HB2.out.size))
    have c0 := Q0.out _ HB3.out
    clear hL3 hb3 HNew HD2 HB2 HBA c1 c5
    go_wp2
    go_loopw [49] (fun i wr => ∃ (m : Nat) (D : Dv) (F : Nat → Prop) (L : List UInt8), m ≤ l.length ∧ i = .int .i64 m ∧ One 0 D L ∧ L.length ≤ 400 ∧ D.done ≤ m ∧ LI wr w.heap.size q p F D ([] ++ [0]) ∧ Below w.heap.size w wr) (fun i _ => l.length - (intOf i).toNat)
    case atStart => exact ⟨0, dv0 4 400 4, F3, [], Nat.zero_le _, rfl, One.new (by decide), by simp, Nat.le_refl _, HL3.out, HB3.out⟩
    case round =>
      clear HL3 HB3 c0
      obtain ⟨m, D, F, L, hm, rfl, hO, hL4, hdn, hli, hbr⟩ := hrel
      have HO := Lib.hid hO
      have HL := Lib.hid hli
      have HBr := Lib.hid hbr
      clear hO hli
      by_cases hlt : m < l.length
      · obtain ⟨b, off, rfl, d0, d1, d2, d3, hok⟩ := H.out.cell hbr m hlt
        have hsx := HSmall.out _ (List.getElem_mem hlt)
        clear hok
        generalize l[m] = x at *
        have hbx := (Below.refl wr.heap.size wr).alloc (Nat.le_refl _) (.cells #[.string x.u, .int .i64 x.s, .int .i64 x.k, .string x.v] 37)
        have hb5 := hbr.trans (hbx.mono hbr.size)
        obtain ⟨y0, y1, y2, y3⟩ := cells4n (w := wr) (a := .string x.u) (b := .int .i64 x.s) (c := .int .i64 x.k) (d := .string x.v) (T := 37)
        obtain ⟨D', L', zz, aa, nn, er, hcase, hL', hO', hdn', hput⟩ := HO.out.put_it hL4 (HL.out.below hbx) (HT.out.below hb5) x (by have := hsx.2; omega) (by omega)
        have HPut := Lib.hid hput
        have HO' := Lib.hid hO'
        have HL5 := Lib.hid (HL.out.below hbx)
        have HB5 := Lib.hid hb5
        clear hcase hput hO' hbx hb5 hbr hsx HO HL
        go_wp2_with fail
        with_reducible refine (HPut.out).mono ?_
        rintro e w6 ⟨rfl, ho6⟩
        have hb6 := ho6.below HL5.out.ge HL5.out.room
        obtain ⟨⟨F6, hL6, _⟩, _⟩ := ho6
        have HX : Hid (LI w6 w.heap.size q p F6 D' ([] ++ [0]) ∧ Below w.heap.size w w6) := Lib.hid ⟨hL6, HB5.out.trans hb6⟩
        clear hb6 hL6 HPut
        go_wp2
        go_roundw
        case rel => exact ⟨m + 1, D', F6, L', by omega, by go_num, HO'.out, hL', by omega, HX.out.1, HX.out.2⟩
        case measure => simp [intOf]; omega
      · have c1 := Q1.out _ hbr
        obtain ⟨D', L', er0, hcase, hL', hO', hdn', hraw⟩ := HO.out.raw hL4 HL.out R (by omega) (by omega)
        have HRaw : Hid (Calls Tryd.prog 14 #[.pointer (some ⟨p, 0, none⟩), .int .i64 0, .slice ra R.length rc] wr fun e w' => e = .returned (.int .i64 er0) ∧ LOut wr w.heap.size q p F D' ([] ++ [0]) w') := Lib.hid (hraw ra rc (HR.out.below hbr))
        have HO' := Lib.hid hO'
        clear hcase hraw hO' hbr HO
        go_wp2_with fail; (with_reducible refine (HRaw.out).mono ?_); rintro e w6 ⟨rfl, ho6⟩
        have hb6 := ho6.below HL.out.ge HL.out.room
        obtain ⟨⟨F6, hL6, _⟩, _⟩ := ho6
        have HL6 := Lib.hid hL6
        have HB6 := Lib.hid (HBr.out.trans hb6)
        have e2 := Q2.out _ HB6.out
        have e3 := Q3.out _ HB6.out
        have e4 := Q4.out _ HB6.out
        have e5 := Q5.out _ HB6.out
        have e6 := Q6.out _ HB6.out
        have e7 := Q7.out _ HB6.out
        have HGt := Lib.hid (hL6.get (HT.out.below HB6.out) z at' n u s k)
        clear hb6 hL6 HRaw HL HBr HO'
        go_wp2_with fail; (with_reducible refine (HGt.out).mono ?_); rintro e w7 ⟨v, er, rfl, hg, hb7⟩
        have HG := Lib.hid hg
        have HB7 := Lib.hid (HB6.out.trans (hb7.mono HB6.out.size))
        have hra := (HL6.out.below hb7).readAt (HT.out.below HB7.out) z at' n
        have hll := lread_len D' z at' n
        have HRa := Lib.hid hra
        have f2 := Q2.out _ HB7.out
        have f3 := Q3.out _ HB7.out
        have f4 := Q4.out _ HB7.out
        have f5 := Q5.out _ HB7.out
        have f6 := Q6.out _ HB7.out
        have f7 := Q7.out _ HB7.out
        clear hg hb7 hra HGt e2 e3 e4 e5 e6 e7
        obtain ⟨rb, fr, hres⟩ : ∃ rb fr, lread D' z at' n = (rb, fr) := ⟨_, _, rfl⟩
        have hra : Calls Tryd.prog 16 #[.pointer (some ⟨q, 0, none⟩), .int .i64 z, .int .i64 at', .int .i64 n] w7 fun e w' => ∃ v, e = .returned (.tuple #[v, .int .i64 fr]) ∧ OB w' w7.heap.size v rb ∧ Below w7.heap.size w7 w' := by
          have := HRa.out
          rw [hres] at this
          exact this
        rw [hres] at hll
        have hvg : VGet D' z at' n u s k v er := HG.out
        unfold VGet at hvg
        rw [hres] at hvg
        dsimp only at hvg hll
        have HVG := Lib.hid hvg
        have HRb := Lib.hid hra
        clear hra HRa hres hvg HG
        go_wp2_with fail; (with_reducible refine (HRb.out).mono ?_); rintro e w8 ⟨v8, rfl, ho8, hb8⟩
        obtain ⟨a8, n8, c8, rfl, hm8⟩ := ho8.shape
        obtain rfl := ho8.len
        have HB8 := Lib.hid (HB7.out.trans (hb8.mono HB7.out.size))
        have HR8 := Lib.hid ho8.reads
        have g2 := Q2.out _ HB8.out
        have g3 := Q3.out _ HB8.out
        have g4 := Q4.out _ HB8.out
        have g5 := Q5.out _ HB8.out
        have g6 := Q6.out _ HB8.out
        have g7 := Q7.out _ HB8.out
        clear ho8 hb8 HRb f2 f3 f4 f5 f6 f7
        have hrp := prefright z at' n w8
        have HA8 := Lib.hid (awake14 (HT.out.below HB8.out))
        cases hpc : pchk z at' n with
        | false =>
          rw [hpc] at hrp
          have HRp := Lib.hid hrp
          obtain ⟨rfl, rfl⟩ : v = ⟨#[]⟩ ∧ er = 140 := by
            rcases HVG.out with ⟨_, h⟩ | ⟨h, _⟩ | ⟨h, _⟩ | ⟨h, _⟩
            · exact h
            all_goals (rw [hpc] at h; cases h)
          clear hpc hrp HVG
          go_wp2_with fail; (with_reducible refine (HRp.out).mono ?_); rintro e w9 ⟨rfl, hw9⟩
          subst hw9
          go_wp2_with fail; (with_reducible refine (HA8.out).mono ?_); rintro e w10 ⟨rfl, hb10⟩
          go_wp2
          go_ret
          exact ⟨by first | rfl | simp, HB0.out.trans ((HB8.out.trans (hb10.mono HB8.out.size)).mono HB0.out.size)⟩
        | true =>
          rw [hpc] at hrp
          have HRp := Lib.hid hrp
          have hv2 : (fr ≠ 0 ∧ v = ⟨#[]⟩ ∧ er = fr) ∨ (fr = 0 ∧ er = 0 ∧ keyRight u s k = true ∧ rb = recB u s k v) ∨ (fr = 0 ∧ er = 140 ∧ v = ⟨#[]⟩ ∧ ∀ x, keyRight u s k = true → rb ≠ recB u s k x) := by
            rcases HVG.out with ⟨h, _⟩ | ⟨_, h⟩ | ⟨_, h⟩ | ⟨_, h⟩
            · rw [hpc] at h; cases h
            · exact .inl h
            · exact .inr (.inl h)
            · exact .inr (.inr h)
          clear hpc hrp HVG
          rcases hv2 with ⟨hfr, rfl, rfl⟩ | ⟨rfl, rfl, hkr, hrb⟩ | ⟨rfl, rfl, rfl, hno⟩
          · have hne : (er != 0) = true := by rw [bne_iff_ne]; exact hfr
            clear hfr
            go_wp2_with fail; (with_reducible refine (HRp.out).mono ?_); rintro e w9 ⟨rfl, hw9⟩
            subst hw9
            go_wp2_with fail; (with_reducible refine (HA8.out).mono ?_); rintro e w10 ⟨rfl, hb10⟩
            go_wp2
            go_ret
            exact ⟨by first | rfl | simp, HB0.out.trans ((HB8.out.trans (hb10.mono HB8.out.size)).mono HB0.out.size)⟩
          · have HKr := Lib.hid hkr
            have HRb := Lib.hid hrb
            have hvs : v.size ≤ 65536 := by have := recB_ge u s k v; rw [← hrb] at this; omega
            have HRr : Hid (∀ W, Calls Tryd.prog 18 #[.agg #[.string u, .int .i64 s, .int .i64 k]] W fun e w' => e = .returned (.bool true) ∧ Below W.heap.size W w') := Lib.hid fun W => by
              have := refright u s k W hum
              rw [hkr] at this; exact this
            have HRf : Hid (∀ W, Calls Tryd.prog 19 #[.agg #[.string u, .int .i64 s, .int .i64 k]] W fun e w' => e = .returned (.agg #[.string u, .int .i64 s, .int .i64 k]) ∧ Below W.heap.size W w') := Lib.hid fun W => lawref14 u s k W
            have HRc : Hid (∀ W, Calls Tryd.prog 21 #[.agg #[.string u, .int .i64 s, .int .i64 k], .string v] W fun e w' => ∃ v', e = .returned v' ∧ OB w' W.heap.size v' rb ∧ Below W.heap.size W w') := Lib.hid fun W => by
              have := refrecord u s k v W hkr (by omega)
              rw [← hrb] at this; exact this
            clear hkr hrb
            go_wp2_with fail; (with_reducible refine (HRp.out).mono ?_); rintro e w9 ⟨rfl, hw9⟩
            subst hw9
            go_wp2_with fail; (with_reducible refine (HRf.out _).mono ?_); rintro e w9 ⟨rfl, hb9⟩
            go_wp2_with fail; (with_reducible refine (HRr.out _).mono ?_); rintro e w10 ⟨rfl, hb10⟩
            have hb810 := hb9.trans (hb10.mono hb9.size)
            have i5 := Q5.out _ (HB8.out.trans (hb810.mono HB8.out.size))
            have i6 := Q6.out _ (HB8.out.trans (hb810.mono HB8.out.size))
            have i7 := Q7.out _ (HB8.out.trans (hb810.mono HB8.out.size))
            go_wp2_with fail; (with_reducible refine (HRf.out _).mono ?_); rintro e w11 ⟨rfl, hb11⟩
            go_wp2_with fail; (with_reducible refine (HRc.out _).mono ?_); rintro e w12 ⟨v12, rfl, ho12, hb12⟩
            obtain ⟨a12, n12, c12, rfl, hm12⟩ := ho12.shape
            have hb811 := hb810.trans (hb11.mono hb810.size)
            have hb812 := hb811.trans (hb12.mono hb811.size)
            have HSa := Lib.hid (same_b ho12.reads (HR8.out.below hb812) true (by simp))
            have HB12 := Lib.hid (HB8.out.trans (hb812.mono HB8.out.size))
            clear hb9 hb10 hb810 hb11 hb12 hb811 hb812 ho12 HRc HRf HRr g2 g3 g4 g5 g6 g7 i5 i6 i7
            go_wp2_with fail; (with_reducible refine (HSa.out).mono ?_); rintro e w13 ⟨rfl, hb13⟩
            have HB13 := Lib.hid (HB12.out.trans (hb13.mono HB12.out.size))
            have HA13 := Lib.hid (awake14 (HT.out.below HB13.out))
            clear hb13
            go_wp2_with fail; (with_reducible refine (HA13.out).mono ?_); rintro e w14 ⟨rfl, hb14⟩
            go_wp2
            go_ret
            exact ⟨by first | rfl | simp, HB0.out.trans ((HB13.out.trans (hb14.mono HB13.out.size)).mono HB0.out.size)⟩
          · have HNo := Lib.hid hno
            have HRr : Hid (∀ W, Calls Tryd.prog 18 #[.agg #[.string u, .int .i64 s, .int .i64 k]] W fun e w' => e = .returned (.bool (keyRight u s k)) ∧ Below W.heap.size W w') := Lib.hid fun W => refright u s k W hum
            have HRf : Hid (∀ u s k W, Calls Tryd.prog 19 #[.agg #[.string u, .int .i64 s, .int .i64 k]] W fun e w' => e = .returned (.agg #[.string u, .int .i64 s, .int .i64 k]) ∧ Below W.heap.size W w') := Lib.hid fun u s k W => lawref14 u s k W
            clear hno
            go_wp2_with fail; (with_reducible refine (HRp.out).mono ?_); rintro e w9 ⟨rfl, hw9⟩
            subst hw9
            go_wp2_with fail; (with_reducible refine (HRf.out _ _ _ _).mono ?_); rintro e w9 ⟨rfl, hb9⟩
            go_wp2_with fail; (with_reducible refine (HRr.out _).mono ?_); rintro e w10 ⟨rfl, hb10⟩
            have HB10 := Lib.hid (HB8.out.trans ((hb9.trans (hb10.mono hb9.size)).mono HB8.out.size))
            have HR10 := Lib.hid (HR8.out.below (hb9.trans (hb10.mono hb9.size)))
            have c0 := Q0.out _ HB10.out
            obtain ⟨rt, hrt⟩ : ∃ rt, keyRight u s k = rt := ⟨_, rfl⟩
            rw [hrt]
            have HRt := Lib.hid hrt
            clear hb9 hb10 hrt g2 g3 g4 g5 g6 g7 HR8 HB8 HRp HRr HL6 HB6 HB7 HA8
            go_wp2
            go_loopw [128] (fun i wr => ∃ m : Nat, m ≤ l.length ∧ i = .int .i64 m ∧ Below w10.heap.size w10 wr) (fun i _ => l.length - (intOf i).toNat)
            case atStart => exact ⟨0, Nat.zero_le _, rfl, Below.refl _ _⟩
            case round =>
              clear c0
              obtain ⟨m, hm, rfl, hbr⟩ := hrel
              have HBr := Lib.hid (HB10.out.trans (hbr.mono HB10.out.size))
              by_cases hlt : m < l.length
              · obtain ⟨b, off, rfl, d0, d1, d2, d3, hok⟩ := H.out.cell HBr.out m hlt
                have hsx := HSmall.out _ (List.getElem_mem hlt)
                clear hok
                generalize l[m] = x at *
                obtain ⟨xu, xs, xk, xv⟩ := x
                simp only at d0 d1 d2 d3
                have hbx := (Below.refl wr.heap.size wr).alloc (Nat.le_refl _) (.cells #[.string xu, .int .i64 xs, .int .i64 xk, .string xv] 37)
                obtain ⟨y0, y1, y2, y3⟩ := cells4n (w := wr) (a := .string xu) (b := .int .i64 xs) (c := .int .i64 xk) (d := .string xv) (T := 37)
                have hb5 := HBr.out.trans (hbx.mono HBr.out.size)
                have k5 := Q5.out _ hb5
                have k6 := Q6.out _ hb5
                have k7 := Q7.out _ hb5
                have hbt := hbr.trans (hbx.mono hbr.size)
                have HBt := Lib.hid hbt
                have HR5 := Lib.hid (HR10.out.below hbt)
                have hek := eqKey xu u xs s xk k
                have hvs : xv.size ≤ 500 := hsx.2
                have Y0 := Lib.hid (cell_next y0)
                have Y1 := Lib.hid (cell_next y1)
                have Y2 := Lib.hid (cell_next y2)
                have Y3 := Lib.hid (cell_next y3)
                have HB5 := Lib.hid hb5
                clear hb5 hbt hbr hsx hbx HBr
                go_upto_region 24 with (fail)
                clear d0 d1 d2 d3
                generalize wr.alloc (.cells #[.string xu, .int .i64 xs, .int .i64 xk, .string xv] 37) = w5 at *
                generalize wr.heap.size = tq at *
                have h3 : rt = false ∨ (rt = true ∧ keq xu xs xk u s k = false) ∨ (rt = true ∧ keq xu xs xk u s k = true) := by
                  cases rt with
                  | false => exact .inl rfl
                  | true =>
                    cases keq xu xs xk u s k with
                    | false => exact .inr (.inl ⟨rfl, rfl⟩)
                    | true => exact .inr (.inr ⟨rfl, rfl⟩)
                rcases h3 with rfl | ⟨rfl, hkq⟩ | ⟨rfl, hkq⟩
                · skip
                  refine wp_region_held_drew (S := fun w' => (w'.cell? ⟨tq, 0, none⟩ = some (.string xu) ∧ w'.cell? ⟨tq, 1, none⟩ = some (.int .i64 xs) ∧ w'.cell? ⟨tq, 2, none⟩ = some (.int .i64 xk) ∧ w'.cell? ⟨tq, 3, none⟩ = some (.string xv)) ∧ w'.cell? ⟨w0.heap.size, 5, none⟩ = some (.string u) ∧ w'.cell? ⟨w0.heap.size, 6, none⟩ = some (.int .i64 s) ∧ w'.cell? ⟨w0.heap.size, 7, none⟩ = some (.int .i64 k)) (by kernel_rfl) ⟨⟨y0, y1, y2, y3⟩, k5, k6, k7⟩ (fun hHeld => ?_)
                  refine wpAnyH_take (i := 0) (oi := ⟨some 132, _, _, _, _, _⟩) (v := ?_) rfl (by kernel_rfl) (by kernel_rfl) (by kernel_rfl) (fun _ _ _ h => h) (Or.inl ⟨by rfl, ?_⟩) (by assumption) ?_
                  rotate_left
                  · intro w hSw
                    (try dsimp only at hSw)
                    go_simp
                    (try with_reducible rfl)
                  (try simp only [Act.put, List.setIfInBounds_toArray, List.set_cons_zero, List.set_cons_succ])
                  refine wpAnyH_take (i := 1) (oi := ⟨some 133, _, _, _, _, _⟩) (v := ?_) rfl (by kernel_rfl) (by kernel_rfl) (by kernel_rfl) (fun _ _ _ h => h) (Or.inl ⟨by rfl, ?_⟩) (by assumption) ?_
                  rotate_left
                  · intro w hSw
                    (try dsimp only at hSw)
                    go_simp
                    (try with_reducible rfl)
                  (try simp only [Act.put, List.setIfInBounds_toArray, List.set_cons_zero, List.set_cons_succ])
                  refine wpAnyH_take (i := 2) (oi := ⟨some 134, _, _, _, _, _⟩) (v := undef) rfl (by kernel_rfl) (by kernel_rfl) (by kernel_rfl) (fun _ _ _ h => h) (Or.inr ⟨by rfl, rfl⟩) (by assumption) ?_
                  (try simp only [Act.put, List.setIfInBounds_toArray, List.set_cons_zero, List.set_cons_succ])
                  refine wpAnyH_take (i := 3) (oi := ⟨some 135, _, _, _, _, _⟩) (v := undef) rfl (by kernel_rfl) (by kernel_rfl) (by kernel_rfl) (fun _ _ _ h => h) (Or.inr ⟨by rfl, rfl⟩) (by assumption) ?_
                  (try simp only [Act.put, List.setIfInBounds_toArray, List.set_cons_zero, List.set_cons_succ])
                  refine wpAnyH_take (i := 4) (oi := ⟨some 136, _, _, _, _, _⟩) (v := undef) rfl (by kernel_rfl) (by kernel_rfl) (by kernel_rfl) (fun _ _ _ h => h) (Or.inr ⟨by rfl, rfl⟩) (by assumption) ?_
                  (try simp only [Act.put, List.setIfInBounds_toArray, List.set_cons_zero, List.set_cons_succ])
                  refine wpAnyH_take (i := 5) (oi := ⟨some 137, _, _, _, _, _⟩) (v := undef) rfl (by kernel_rfl) (by kernel_rfl) (by kernel_rfl) (fun _ _ _ h => h) (Or.inr ⟨by rfl, rfl⟩) (by assumption) ?_
                  (try simp only [Act.put, List.setIfInBounds_toArray, List.set_cons_zero, List.set_cons_succ])
                  refine wpAnyH_take (i := 6) (oi := ⟨some 138, _, _, _, _, _⟩) (v := undef) rfl (by kernel_rfl) (by kernel_rfl) (by kernel_rfl) (fun _ _ _ h => h) (Or.inr ⟨by rfl, rfl⟩) (by assumption) ?_
                  (try simp only [Act.put, List.setIfInBounds_toArray, List.set_cons_zero, List.set_cons_succ])
                  refine wpAnyH_take (i := 7) (oi := ⟨some 139, _, _, _, _, _⟩) (v := ?_) rfl (by kernel_rfl) (by kernel_rfl) (by kernel_rfl) (fun _ _ _ h => h) (Or.inl ⟨by rfl, ?_⟩) (by assumption) ?_
                  rotate_left
                  · intro w hSw
                    (try dsimp only at hSw)
                    go_simp
                    (try with_reducible rfl)
                  (try simp only [Act.put, List.setIfInBounds_toArray, List.set_cons_zero, List.set_cons_succ])
                  refine wpAnyH_take (i := 8) (oi := ⟨some 140, _, _, _, _, _⟩) (v := ?_) rfl (by kernel_rfl) (by kernel_rfl) (by kernel_rfl) (fun _ _ _ h => h) (Or.inl ⟨by rfl, ?_⟩) (by assumption) ?_
                  rotate_left
                  · intro w hSw
                    (try dsimp only at hSw)
                    go_simp
                    (try with_reducible rfl)
                  (try simp only [Act.put, List.setIfInBounds_toArray, List.set_cons_zero, List.set_cons_succ])
                  refine wpAnyH_take (i := 9) (oi := ⟨some 141, _, _, _, _, _⟩) (v := undef) rfl (by kernel_rfl) (by kernel_rfl) (by kernel_rfl) (fun _ _ _ h => h) (Or.inr ⟨by rfl, rfl⟩) (by assumption) ?_
                  (try simp only [Act.put, List.setIfInBounds_toArray, List.set_cons_zero, List.set_cons_succ])
                  refine wpAnyH_take (i := 10) (oi := ⟨some 142, _, _, _, _, _⟩) (v := undef) rfl (by kernel_rfl) (by kernel_rfl) (by kernel_rfl) (fun _ _ _ h => h) (Or.inr ⟨by rfl, rfl⟩) (by assumption) ?_
                  (try simp only [Act.put, List.setIfInBounds_toArray, List.set_cons_zero, List.set_cons_succ])
                  refine wpAnyH_take (i := 11) (oi := ⟨some 143, _, _, _, _, _⟩) (v := undef) rfl (by kernel_rfl) (by kernel_rfl) (by kernel_rfl) (fun _ _ _ h => h) (Or.inr ⟨by rfl, rfl⟩) (by assumption) ?_
                  (try simp only [Act.put, List.setIfInBounds_toArray, List.set_cons_zero, List.set_cons_succ])
                  refine wpAnyH_take (i := 12) (oi := ⟨some 144, _, _, _, _, _⟩) (v := undef) rfl (by kernel_rfl) (by kernel_rfl) (by kernel_rfl) (fun _ _ _ h => h) (Or.inr ⟨by rfl, rfl⟩) (by assumption) ?_
                  (try simp only [Act.put, List.setIfInBounds_toArray, List.set_cons_zero, List.set_cons_succ])
                  refine wpAnyH_take (i := 13) (oi := ⟨some 145, _, _, _, _, _⟩) (v := undef) rfl (by kernel_rfl) (by kernel_rfl) (by kernel_rfl) (fun _ _ _ h => h) (Or.inr ⟨by rfl, rfl⟩) (by assumption) ?_
                  (try simp only [Act.put, List.setIfInBounds_toArray, List.set_cons_zero, List.set_cons_succ])
                  refine wpAnyH_take (i := 14) (oi := ⟨some 146, _, _, _, _, _⟩) (v := undef) rfl (by kernel_rfl) (by kernel_rfl) (by kernel_rfl) (fun _ _ _ h => h) (Or.inr ⟨by rfl, rfl⟩) (by assumption) ?_
                  (try simp only [Act.put, List.setIfInBounds_toArray, List.set_cons_zero, List.set_cons_succ])
                  refine wpAnyH_take (i := 15) (oi := ⟨some 147, _, _, _, _, _⟩) (v := undef) rfl (by kernel_rfl) (by kernel_rfl) (by kernel_rfl) (fun _ _ _ h => h) (Or.inr ⟨by rfl, rfl⟩) (by assumption) ?_
                  (try simp only [Act.put, List.setIfInBounds_toArray, List.set_cons_zero, List.set_cons_succ])
                  refine wpAnyH_take (i := 16) (oi := ⟨some 148, _, _, _, _, _⟩) (v := undef) rfl (by kernel_rfl) (by kernel_rfl) (by kernel_rfl) (fun _ _ _ h => h) (Or.inr ⟨by rfl, rfl⟩) (by assumption) ?_
                  (try simp only [Act.put, List.setIfInBounds_toArray, List.set_cons_zero, List.set_cons_succ])
                  refine wpAnyH_take (i := 17) (oi := ⟨some 149, _, _, _, _, _⟩) (v := ?_) rfl (by kernel_rfl) (by kernel_rfl) (by kernel_rfl) (fun _ _ _ h => h) (Or.inl ⟨by rfl, ?_⟩) (by assumption) ?_
                  rotate_left
                  · intro w hSw
                    (try dsimp only at hSw)
                    go_simp
                    (try with_reducible rfl)
                  (try simp only [Act.put, List.setIfInBounds_toArray, List.set_cons_zero, List.set_cons_succ])
                  refine wpAnyH_done (by kernel_rfl) ?_ _
                  have HB6 := Lib.hid HBt.out.drew
                  go_wp2
                  go_roundw
                  case rel => exact ⟨m + 1, by omega, by go_num, HB6.out⟩
                  case measure => simp [intOf]; omega
                · rw [hkq] at hek
                  refine wp_region_held_drew (S := fun w' => (w'.cell? ⟨tq, 0, none⟩ = some (.string xu) ∧ w'.cell? ⟨tq, 1, none⟩ = some (.int .i64 xs) ∧ w'.cell? ⟨tq, 2, none⟩ = some (.int .i64 xk) ∧ w'.cell? ⟨tq, 3, none⟩ = some (.string xv)) ∧ w'.cell? ⟨w0.heap.size, 5, none⟩ = some (.string u) ∧ w'.cell? ⟨w0.heap.size, 6, none⟩ = some (.int .i64 s) ∧ w'.cell? ⟨w0.heap.size, 7, none⟩ = some (.int .i64 k)) (by kernel_rfl) ⟨⟨y0, y1, y2, y3⟩, k5, k6, k7⟩ (fun hHeld => ?_)
                  refine wpAnyH_take (i := 0) (oi := ⟨some 132, _, _, _, _, _⟩) (v := ?_) rfl (by kernel_rfl) (by kernel_rfl) (by kernel_rfl) (fun _ _ _ h => h) (Or.inl ⟨by rfl, ?_⟩) (by assumption) ?_
                  rotate_left
                  · intro w hSw
                    (try dsimp only at hSw)
                    go_simp
                    (try with_reducible rfl)
                  (try simp only [Act.put, List.setIfInBounds_toArray, List.set_cons_zero, List.set_cons_succ])
                  refine wpAnyH_take (i := 1) (oi := ⟨some 133, _, _, _, _, _⟩) (v := ?_) rfl (by kernel_rfl) (by kernel_rfl) (by kernel_rfl) (fun _ _ _ h => h) (Or.inl ⟨by rfl, ?_⟩) (by assumption) ?_
                  rotate_left
                  · intro w hSw
                    (try dsimp only at hSw)
                    go_simp
                    (try with_reducible rfl)
                  (try simp only [Act.put, List.setIfInBounds_toArray, List.set_cons_zero, List.set_cons_succ])
                  refine wpAnyH_take (i := 2) (oi := ⟨some 134, _, _, _, _, _⟩) (v := ?_) rfl (by kernel_rfl) (by kernel_rfl) (by kernel_rfl) (fun _ _ _ h => h) (Or.inl ⟨by rfl, ?_⟩) (by assumption) ?_
                  rotate_left
                  · intro w hSw
                    (try dsimp only at hSw)
                    go_simp
                    (try with_reducible rfl)
                  (try simp only [Act.put, List.setIfInBounds_toArray, List.set_cons_zero, List.set_cons_succ])
                  refine wpAnyH_take (i := 3) (oi := ⟨some 135, _, _, _, _, _⟩) (v := ?_) rfl (by kernel_rfl) (by kernel_rfl) (by kernel_rfl) (fun _ _ _ h => h) (Or.inl ⟨by rfl, ?_⟩) (by assumption) ?_
                  rotate_left
                  · intro w hSw
                    (try dsimp only at hSw)
                    go_simp
                    (try with_reducible rfl)
                  (try simp only [Act.put, List.setIfInBounds_toArray, List.set_cons_zero, List.set_cons_succ])
                  refine wpAnyH_take (i := 4) (oi := ⟨some 136, _, _, _, _, _⟩) (v := ?_) rfl (by kernel_rfl) (by kernel_rfl) (by kernel_rfl) (fun _ _ _ h => h) (Or.inl ⟨by rfl, ?_⟩) (by assumption) ?_
                  rotate_left
                  · intro w hSw
                    (try dsimp only at hSw)
                    go_simp
                    (try with_reducible rfl)
                  (try simp only [Act.put, List.setIfInBounds_toArray, List.set_cons_zero, List.set_cons_succ])
                  refine wpAnyH_take (i := 5) (oi := ⟨some 137, _, _, _, _, _⟩) (v := ?_) rfl (by kernel_rfl) (by kernel_rfl) (by kernel_rfl) (fun _ _ _ h => h) (Or.inl ⟨by rfl, ?_⟩) (by assumption) ?_
                  rotate_left
                  · intro w hSw
                    (try dsimp only at hSw)
                    go_simp
                    (try with_reducible rfl)
                  (try simp only [Act.put, List.setIfInBounds_toArray, List.set_cons_zero, List.set_cons_succ])
                  refine wpAnyH_take (i := 6) (oi := ⟨some 138, _, _, _, _, _⟩) (v := ?_) rfl (by kernel_rfl) (by kernel_rfl) (by kernel_rfl) (fun _ _ _ h => h) (Or.inl ⟨by rfl, ?_⟩) (by assumption) ?_
                  rotate_left
                  · intro w hSw
                    (try dsimp only at hSw)
                    have hst := hek w
                    go_simp
                    (try with_reducible rfl)
                  (try simp only [Act.put, List.setIfInBounds_toArray, List.set_cons_zero, List.set_cons_succ])
                  refine wpAnyH_take (i := 7) (oi := ⟨some 139, _, _, _, _, _⟩) (v := ?_) rfl (by kernel_rfl) (by kernel_rfl) (by kernel_rfl) (fun _ _ _ h => h) (Or.inl ⟨by rfl, ?_⟩) (by assumption) ?_
                  rotate_left
                  · intro w hSw
                    (try dsimp only at hSw)
                    go_simp
                    (try with_reducible rfl)
                  (try simp only [Act.put, List.setIfInBounds_toArray, List.set_cons_zero, List.set_cons_succ])
                  refine wpAnyH_take (i := 8) (oi := ⟨some 140, _, _, _, _, _⟩) (v := ?_) rfl (by kernel_rfl) (by kernel_rfl) (by kernel_rfl) (fun _ _ _ h => h) (Or.inl ⟨by rfl, ?_⟩) (by assumption) ?_
                  rotate_left
                  · intro w hSw
                    (try dsimp only at hSw)
                    go_simp
                    (try with_reducible rfl)
                  (try simp only [Act.put, List.setIfInBounds_toArray, List.set_cons_zero, List.set_cons_succ])
                  refine wpAnyH_take (i := 9) (oi := ⟨some 141, _, _, _, _, _⟩) (v := undef) rfl (by kernel_rfl) (by kernel_rfl) (by kernel_rfl) (fun _ _ _ h => h) (Or.inr ⟨by rfl, rfl⟩) (by assumption) ?_
                  (try simp only [Act.put, List.setIfInBounds_toArray, List.set_cons_zero, List.set_cons_succ])
                  refine wpAnyH_take (i := 10) (oi := ⟨some 142, _, _, _, _, _⟩) (v := undef) rfl (by kernel_rfl) (by kernel_rfl) (by kernel_rfl) (fun _ _ _ h => h) (Or.inr ⟨by rfl, rfl⟩) (by assumption) ?_
                  (try simp only [Act.put, List.setIfInBounds_toArray, List.set_cons_zero, List.set_cons_succ])
                  refine wpAnyH_take (i := 11) (oi := ⟨some 143, _, _, _, _, _⟩) (v := undef) rfl (by kernel_rfl) (by kernel_rfl) (by kernel_rfl) (fun _ _ _ h => h) (Or.inr ⟨by rfl, rfl⟩) (by assumption) ?_
                  (try simp only [Act.put, List.setIfInBounds_toArray, List.set_cons_zero, List.set_cons_succ])
                  refine wpAnyH_take (i := 12) (oi := ⟨some 144, _, _, _, _, _⟩) (v := undef) rfl (by kernel_rfl) (by kernel_rfl) (by kernel_rfl) (fun _ _ _ h => h) (Or.inr ⟨by rfl, rfl⟩) (by assumption) ?_
                  (try simp only [Act.put, List.setIfInBounds_toArray, List.set_cons_zero, List.set_cons_succ])
                  refine wpAnyH_take (i := 13) (oi := ⟨some 145, _, _, _, _, _⟩) (v := undef) rfl (by kernel_rfl) (by kernel_rfl) (by kernel_rfl) (fun _ _ _ h => h) (Or.inr ⟨by rfl, rfl⟩) (by assumption) ?_
                  (try simp only [Act.put, List.setIfInBounds_toArray, List.set_cons_zero, List.set_cons_succ])
                  refine wpAnyH_take (i := 14) (oi := ⟨some 146, _, _, _, _, _⟩) (v := undef) rfl (by kernel_rfl) (by kernel_rfl) (by kernel_rfl) (fun _ _ _ h => h) (Or.inr ⟨by rfl, rfl⟩) (by assumption) ?_
                  (try simp only [Act.put, List.setIfInBounds_toArray, List.set_cons_zero, List.set_cons_succ])
                  refine wpAnyH_take (i := 15) (oi := ⟨some 147, _, _, _, _, _⟩) (v := undef) rfl (by kernel_rfl) (by kernel_rfl) (by kernel_rfl) (fun _ _ _ h => h) (Or.inr ⟨by rfl, rfl⟩) (by assumption) ?_
                  (try simp only [Act.put, List.setIfInBounds_toArray, List.set_cons_zero, List.set_cons_succ])
                  refine wpAnyH_take (i := 16) (oi := ⟨some 148, _, _, _, _, _⟩) (v := undef) rfl (by kernel_rfl) (by kernel_rfl) (by kernel_rfl) (fun _ _ _ h => h) (Or.inr ⟨by rfl, rfl⟩) (by assumption) ?_
                  (try simp only [Act.put, List.setIfInBounds_toArray, List.set_cons_zero, List.set_cons_succ])
                  refine wpAnyH_take (i := 17) (oi := ⟨some 149, _, _, _, _, _⟩) (v := ?_) rfl (by kernel_rfl) (by kernel_rfl) (by kernel_rfl) (fun _ _ _ h => h) (Or.inl ⟨by rfl, ?_⟩) (by assumption) ?_
                  rotate_left
                  · intro w hSw
                    (try dsimp only at hSw)
                    go_simp
                    (try with_reducible rfl)
                  (try simp only [Act.put, List.setIfInBounds_toArray, List.set_cons_zero, List.set_cons_succ])
                  refine wpAnyH_done (by kernel_rfl) ?_ _
                  have HB6 := Lib.hid HBt.out.drew
                  go_wp2
                  go_roundw
                  case rel => exact ⟨m + 1, by omega, by go_num, HB6.out⟩
                  case measure => simp [intOf]; omega
                · rw [hkq] at hek
                  refine wp_region_held_drew (S := fun w' => (w'.cell? ⟨tq, 0, none⟩ = some (.string xu) ∧ w'.cell? ⟨tq, 1, none⟩ = some (.int .i64 xs) ∧ w'.cell? ⟨tq, 2, none⟩ = some (.int .i64 xk) ∧ w'.cell? ⟨tq, 3, none⟩ = some (.string xv)) ∧ w'.cell? ⟨w0.heap.size, 5, none⟩ = some (.string u) ∧ w'.cell? ⟨w0.heap.size, 6, none⟩ = some (.int .i64 s) ∧ w'.cell? ⟨w0.heap.size, 7, none⟩ = some (.int .i64 k)) (by kernel_rfl) ⟨⟨y0, y1, y2, y3⟩, k5, k6, k7⟩ (fun hHeld => ?_)
                  refine wpAnyH_take (i := 0) (oi := ⟨some 132, _, _, _, _, _⟩) (v := ?_) rfl (by kernel_rfl) (by kernel_rfl) (by kernel_rfl) (fun _ _ _ h => h) (Or.inl ⟨by rfl, ?_⟩) (by assumption) ?_
                  rotate_left
                  · intro w hSw
                    (try dsimp only at hSw)
                    go_simp
                    (try with_reducible rfl)
                  (try simp only [Act.put, List.setIfInBounds_toArray, List.set_cons_zero, List.set_cons_succ])
                  refine wpAnyH_take (i := 1) (oi := ⟨some 133, _, _, _, _, _⟩) (v := ?_) rfl (by kernel_rfl) (by kernel_rfl) (by kernel_rfl) (fun _ _ _ h => h) (Or.inl ⟨by rfl, ?_⟩) (by assumption) ?_
                  rotate_left
                  · intro w hSw
                    (try dsimp only at hSw)
                    go_simp
                    (try with_reducible rfl)
                  (try simp only [Act.put, List.setIfInBounds_toArray, List.set_cons_zero, List.set_cons_succ])
                  refine wpAnyH_take (i := 2) (oi := ⟨some 134, _, _, _, _, _⟩) (v := ?_) rfl (by kernel_rfl) (by kernel_rfl) (by kernel_rfl) (fun _ _ _ h => h) (Or.inl ⟨by rfl, ?_⟩) (by assumption) ?_
                  rotate_left
                  · intro w hSw
                    (try dsimp only at hSw)
                    go_simp
                    (try with_reducible rfl)
                  (try simp only [Act.put, List.setIfInBounds_toArray, List.set_cons_zero, List.set_cons_succ])
                  refine wpAnyH_take (i := 3) (oi := ⟨some 135, _, _, _, _, _⟩) (v := ?_) rfl (by kernel_rfl) (by kernel_rfl) (by kernel_rfl) (fun _ _ _ h => h) (Or.inl ⟨by rfl, ?_⟩) (by assumption) ?_
                  rotate_left
                  · intro w hSw
                    (try dsimp only at hSw)
                    go_simp
                    (try with_reducible rfl)
                  (try simp only [Act.put, List.setIfInBounds_toArray, List.set_cons_zero, List.set_cons_succ])
                  refine wpAnyH_take (i := 4) (oi := ⟨some 136, _, _, _, _, _⟩) (v := ?_) rfl (by kernel_rfl) (by kernel_rfl) (by kernel_rfl) (fun _ _ _ h => h) (Or.inl ⟨by rfl, ?_⟩) (by assumption) ?_
                  rotate_left
                  · intro w hSw
                    (try dsimp only at hSw)
                    go_simp
                    (try with_reducible rfl)
                  (try simp only [Act.put, List.setIfInBounds_toArray, List.set_cons_zero, List.set_cons_succ])
                  refine wpAnyH_take (i := 5) (oi := ⟨some 137, _, _, _, _, _⟩) (v := ?_) rfl (by kernel_rfl) (by kernel_rfl) (by kernel_rfl) (fun _ _ _ h => h) (Or.inl ⟨by rfl, ?_⟩) (by assumption) ?_
                  rotate_left
                  · intro w hSw
                    (try dsimp only at hSw)
                    go_simp
                    (try with_reducible rfl)
                  (try simp only [Act.put, List.setIfInBounds_toArray, List.set_cons_zero, List.set_cons_succ])
                  refine wpAnyH_take (i := 6) (oi := ⟨some 138, _, _, _, _, _⟩) (v := ?_) rfl (by kernel_rfl) (by kernel_rfl) (by kernel_rfl) (fun _ _ _ h => h) (Or.inl ⟨by rfl, ?_⟩) (by assumption) ?_
                  rotate_left
                  · intro w hSw
                    (try dsimp only at hSw)
                    have hst := hek w
                    go_simp
                    (try with_reducible rfl)
                  (try simp only [Act.put, List.setIfInBounds_toArray, List.set_cons_zero, List.set_cons_succ])
                  refine wpAnyH_take (i := 7) (oi := ⟨some 139, _, _, _, _, _⟩) (v := ?_) rfl (by kernel_rfl) (by kernel_rfl) (by kernel_rfl) (fun _ _ _ h => h) (Or.inl ⟨by rfl, ?_⟩) (by assumption) ?_
                  rotate_left
                  · intro w hSw
                    (try dsimp only at hSw)
                    go_simp
                    (try with_reducible rfl)
                  (try simp only [Act.put, List.setIfInBounds_toArray, List.set_cons_zero, List.set_cons_succ])
                  refine wpAnyH_take (i := 8) (oi := ⟨some 140, _, _, _, _, _⟩) (v := ?_) rfl (by kernel_rfl) (by kernel_rfl) (by kernel_rfl) (fun _ _ _ h => h) (Or.inl ⟨by rfl, ?_⟩) (by assumption) ?_
                  rotate_left
                  · intro w hSw
                    (try dsimp only at hSw)
                    go_simp
                    (try with_reducible rfl)
                  (try simp only [Act.put, List.setIfInBounds_toArray, List.set_cons_zero, List.set_cons_succ])
                  refine wpAnyH_take (i := 9) (oi := ⟨some 141, _, _, _, _, _⟩) (v := ?_) rfl (by kernel_rfl) (by kernel_rfl) (by kernel_rfl) (fun _ _ _ h => h) (Or.inl ⟨by rfl, ?_⟩) (by assumption) ?_
                  rotate_left
                  · intro w hSw
                    (try dsimp only at hSw)
                    go_simp
                    (try with_reducible rfl)
                  (try simp only [Act.put, List.setIfInBounds_toArray, List.set_cons_zero, List.set_cons_succ])
                  refine wpAnyH_take (i := 10) (oi := ⟨some 142, _, _, _, _, _⟩) (v := ?_) rfl (by kernel_rfl) (by kernel_rfl) (by kernel_rfl) (fun _ _ _ h => h) (Or.inl ⟨by rfl, ?_⟩) (by assumption) ?_
                  rotate_left
                  · intro w hSw
                    (try dsimp only at hSw)
                    go_simp
                    (try with_reducible rfl)
                  (try simp only [Act.put, List.setIfInBounds_toArray, List.set_cons_zero, List.set_cons_succ])
                  refine wpAnyH_take (i := 12) (oi := ⟨some 144, _, _, _, _, _⟩) (v := ?_) rfl (by kernel_rfl) (by kernel_rfl) (by kernel_rfl) (fun _ _ _ h => h) (Or.inl ⟨by rfl, ?_⟩) (by assumption) ?_
                  rotate_left
                  · intro w hSw
                    (try dsimp only at hSw)
                    go_simp
                    (try with_reducible rfl)
                  (try simp only [Act.put, List.setIfInBounds_toArray, List.set_cons_zero, List.set_cons_succ])
                  refine wpAnyH_take (i := 13) (oi := ⟨some 145, _, _, _, _, _⟩) (v := ?_) rfl (by kernel_rfl) (by kernel_rfl) (by kernel_rfl) (fun _ _ _ h => h) (Or.inl ⟨by rfl, ?_⟩) (by assumption) ?_
                  rotate_left
                  · intro w hSw
                    (try dsimp only at hSw)
                    go_simp
                    (try with_reducible rfl)
                  (try simp only [Act.put, List.setIfInBounds_toArray, List.set_cons_zero, List.set_cons_succ])
                  refine wpAnyH_take (i := 15) (oi := ⟨some 147, _, _, _, _, _⟩) (v := ?_) rfl (by kernel_rfl) (by kernel_rfl) (by kernel_rfl) (fun _ _ _ h => h) (Or.inl ⟨by rfl, ?_⟩) (by assumption) ?_
                  rotate_left
                  · intro w hSw
                    (try dsimp only at hSw)
                    go_simp
                    (try with_reducible rfl)
                  (try simp only [Act.put, List.setIfInBounds_toArray, List.set_cons_zero, List.set_cons_succ])
                  obtain ⟨rfl, rfl, rfl⟩ := (keq_iff _ _ _ _ _ _).1 hkq
                  have HRc : Hid (∀ W, Calls Tryd.prog 21 #[.agg #[.string xu, .int .i64 xs, .int .i64 xk], .string xv] W fun e w' => ∃ v', e = .returned v' ∧ OB w' W.heap.size v' (recB xu xs xk xv) ∧ Below W.heap.size W w') := Lib.hid fun W => refrecord xu xs xk xv W HRt.out (by omega)
                  have HNe : Hid ((recB xu xs xk xv == rb) = false) := Lib.hid (by rw [beq_eq_false_iff_ne]; exact fun e => HNo.out xv HRt.out e.symm)
                  refine wpAnyH_ready (rs := [11]) (by kernel_rfl) (by simp) ?_
                  refine AllReadyH.cons (o := ⟨some 143, _, _, _, _, _⟩) rfl (fun K hK => ?_) ?_
                  · go_simp
                    (with_reducible refine (HRf.out _ _ _ _).mono ?_)
                    rintro e w6 ⟨rfl, hb6⟩
                    have hd6 : Below w5.heap.size w5 w6 := (Below.refl _ w5).drew.trans hb6
                    have hbd := HB5.out.trans (hd6.mono HB5.out.size)
                    have hq6 := And.intro (And.intro (Y0.out _ hd6) (And.intro (Y1.out _ hd6) (And.intro (Y2.out _ hd6) (Y3.out _ hd6)))) (And.intro (Q5.out _ hbd) (And.intro (Q6.out _ hbd) (Q7.out _ hbd)))
                    have HD6 := Lib.hid hd6
                    clear hbd hd6 hb6
                    go_wp2_with fail
                    refine hK.out _ _ ?_ (fun hHeld => ?_)
                    · exact hq6
                    clear hK K
                    (try simp only [Act.put, List.setIfInBounds_toArray, List.set_cons_zero, List.set_cons_succ])
                    refine wpAnyH_ready (rs := [14]) (by kernel_rfl) (by simp) ?_
                    refine AllReadyH.cons (o := ⟨some 146, _, _, _, _, _⟩) rfl (fun K hK => ?_) ?_
                    · go_simp
                      (with_reducible refine (HRc.out _).mono ?_)
                      rintro e w7 ⟨v7, rfl, ho7, hb7⟩
                      have hd7 : Below w5.heap.size w5 w7 := HD6.out.trans (hb7.mono HD6.out.size)
                      have hbd := HB5.out.trans (hd7.mono HB5.out.size)
                      have hq7 := And.intro (And.intro (Y0.out _ hd7) (And.intro (Y1.out _ hd7) (And.intro (Y2.out _ hd7) (Y3.out _ hd7)))) (And.intro (Q5.out _ hbd) (And.intro (Q6.out _ hbd) (Q7.out _ hbd)))
                      have HSa := Lib.hid (same_b ho7.reads (HR5.out.below hd7) false HNe.out)
                      have HD7 := Lib.hid hd7
                      clear hbd hd7 hb7 ho7
                      go_wp2_with fail
                      refine hK.out _ _ ?_ (fun hHeld => ?_)
                      · exact hq7
                      clear hK K
                      (try simp only [Act.put, List.setIfInBounds_toArray, List.set_cons_zero, List.set_cons_succ])
                      refine wpAnyH_ready (rs := [16]) (by kernel_rfl) (by simp) ?_
                      refine AllReadyH.cons (o := ⟨some 148, _, _, _, _, _⟩) rfl (fun K hK => ?_) ?_
                      · go_simp
                        (with_reducible refine (HSa.out).mono ?_)
                        rintro e w8b ⟨rfl, hb8⟩
                        have hd8 : Below w5.heap.size w5 w8b := HD7.out.trans (hb8.mono HD7.out.size)
                        have hbd := HB5.out.trans (hd8.mono HB5.out.size)
                        have hq8 := And.intro (And.intro (Y0.out _ hd8) (And.intro (Y1.out _ hd8) (And.intro (Y2.out _ hd8) (Y3.out _ hd8)))) (And.intro (Q5.out _ hbd) (And.intro (Q6.out _ hbd) (Q7.out _ hbd)))
                        have HB8b := Lib.hid (HBt.out.trans (hd8.mono HBt.out.size))
                        clear hbd hd8 hb8
                        go_wp2_with fail
                        refine hK.out _ _ ?_ (fun hHeld => ?_)
                        · exact hq8
                        clear hK K
                        (try simp only [Act.put, List.setIfInBounds_toArray, List.set_cons_zero, List.set_cons_succ])
                        refine wpAnyH_take (i := 17) (oi := ⟨some 149, _, _, _, _, _⟩) (v := ?_) rfl (by kernel_rfl) (by kernel_rfl) (by kernel_rfl) (fun _ _ _ h => h) (Or.inl ⟨by rfl, ?_⟩) (by assumption) ?_
                        rotate_left
                        · intro w hSw
                          (try dsimp only at hSw)
                          go_simp
                          (try with_reducible rfl)
                        (try simp only [Act.put, List.setIfInBounds_toArray, List.set_cons_zero, List.set_cons_succ])
                        refine wpAnyH_done (by kernel_rfl) ?_ _
                        go_wp2
                        go_roundw
                        case rel => exact ⟨m + 1, by omega, by go_num, HB8b.out⟩
                        case measure => simp [intOf]; omega
                      exact AllReadyH.nil
                    exact AllReadyH.nil
                  exact AllReadyH.nil
              · have HA := Lib.hid (awake14 (HT.out.below HBr.out))
                clear hbr
                go_wp2_with fail; (with_reducible refine (HA.out).mono ?_); rintro e w11 ⟨rfl, hb11⟩
                go_wp2
                go_ret
                exact ⟨by first | rfl | simp, HB0.out.trans ((HBr.out.trans (hb11.mono HBr.out.size)).mono HB0.out.size)⟩
end Go.Proofs.YtmhklmecpbdljaaDoor
