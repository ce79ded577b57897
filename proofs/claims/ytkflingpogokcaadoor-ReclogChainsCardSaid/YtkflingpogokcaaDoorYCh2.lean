/- Chapter 09: ReclogChains. -/
import Derived.Test.YtkflingpogokcaaDoorYCh1
import Derived.Test.YtkflingpogokcaaDoorYPl2
namespace Go.Proofs.YtkflingpogokcaaDoor
open Go.RowKit Go.Shelf
set_option linter.unusedVariables false
set_option linter.unusedSimpArgs false

theorem cell_six {w : World} {k : Nat} {a b c d e f : Value} {T : TypeId} (h : w.heap[k]? = some (.cells #[a, b, c, d, e, f] T (0, 0))) : w.cell? ⟨k, 0, none⟩ = some a ∧ w.cell? ⟨k, 1, none⟩ = some b ∧ w.cell? ⟨k, 2, none⟩ = some c ∧ w.cell? ⟨k, 3, none⟩ = some d ∧ w.cell? ⟨k, 4, none⟩ = some e ∧ w.cell? ⟨k, 5, none⟩ = some f := by
  refine ⟨?_, ?_, ?_, ?_, ?_, ?_⟩ <;> (rw [cell_of_row _ _ _ _ _ _ h]; rfl)
set_option maxRecDepth 100000 in
set_option maxHeartbeats 4000000 in
/-- a geometry that is not right -/
theorem chain_not {w0 : World} {a ka : Option Addr} {c kc : Nat} {l : List (Value × List UInt8)} {K : List Int} (hT0 : Tab9 w0) (gz gs go fl : Int) (hg : gchk gz gs go = false) :
    Calls Tryd.prog 8 #[.agg #[.int .i64 gz, .int .i64 gs, .int .i64 go, .slice a l.length c, .int .i64 fl, .slice ka K.length kc]] w0 fun e w' => e = .returned (.bool true) ∧ Below w0.heap.size w0 w' := by
  have hb0 := (Below.refl w0.heap.size w0).alloc (Nat.le_refl _) (.cells #[.int .i64 gz, .int .i64 gs, .int .i64 go, .slice a l.length c, .int .i64 fl, .slice ka K.length kc] 50)
  obtain ⟨q0, q1, q2, q3, q4, q5⟩ := cell_six (heap_alloc_new w0 (.cells #[.int .i64 gz, .int .i64 gs, .int .i64 go, .slice a l.length c, .int .i64 fl, .slice ka K.length kc] 50))
  have Q0 := cell_next q0
  have Q1 := cell_next q1
  have Q2 := cell_next q2
  have HN := Lib.hid (znew_nil (w0.alloc (.cells #[.int .i64 gz, .int .i64 gs, .int .i64 go, .slice a l.length c, .int .i64 fl, .slice ka K.length kc] 50)) gz gs go hg)
  have HC : Hid (∀ W, Calls Tryd.prog 23 #[.agg #[.int .i64 gz, .int .i64 gs, .int .i64 go]] W fun e w' => e = .returned (.bool false) ∧ Below W.heap.size W w') := Lib.hid fun W => by
    have := zcheck W gz gs go
    rw [hg] at this; exact this
  have HT0 := Lib.hid hT0
  have HB0 := Lib.hid hb0
  clear hT0 hg hb0
  go_enter Tryd.func8, Tryd.ntmps8
  go_wp2_with fail; (with_reducible refine (HN.out).mono ?_); rintro e w1 ⟨rfl, hb1⟩
  have k0 := Q0 _ hb1
  have k1 := Q1 _ hb1
  have k2 := Q2 _ hb1
  have hz0 := HB0.out.size
  have hb01 := HB0.out.trans (hb1.mono hz0)
  go_wp2_with fail; (with_reducible refine (HC.out _).mono ?_); rintro e w2 ⟨rfl, hb2⟩
  have hb02 := hb01.trans (hb2.mono hb01.size)
  go_wp2_with fail; (with_reducible refine (awake09 (HT0.out.below hb02)).mono ?_); rintro e w3 ⟨rfl, hb3⟩
  go_wp2
  go_ret
  exact ⟨rfl, hb02.trans (hb3.mono hb02.size)⟩
/-- the log, and the records that were laid -/
def ChI (w wr : World) (l : List (Value × List UInt8)) (q p n s dn : Nat) (v : Value) (D : Dv) (F : Nat → Prop) (L : List (List (List UInt8))) (sf : Nat) (LD : List (Value × List UInt8)) : Prop :=
  wr.ownsRow w.heap.size 22 1 v LD.length (LD.map (·.1)) ∧ (∀ x ∈ LD, x ∈ l) ∧ CI n s D L sf ∧ D.done ≤ dn ∧ LI wr w.heap.size q p F D (List.range L.length) ∧ (∀ q, v.ownBlock = some q → ¬ F q) ∧ Below w.heap.size w wr
/-- the log has turned -/
theorem ChI.turn {w wr w' : World} {l : List (Value × List UInt8)} {q p n s dn dn' : Nat} {v : Value} {D D' : Dv} {F : Nat → Prop} {L L' : List (List (List UInt8))} {sf sf' : Nat} {LD : List (Value × List UInt8)} (h : ChI w wr l q p n s dn v D F L sf LD) (hc : CI n s D' L' sf') (hd : D'.done ≤ dn') (ho : LOut wr w.heap.size q p F D' (List.range L'.length) w') : ∃ F', ChI w w' l q p n s dn' v D' F' L' sf' LD := by
  obtain ⟨h1, h2, h4, h5, h6, h7, h8⟩ := h
  have hb := ho.below h6.ge h6.room
  obtain ⟨⟨F', hD', hF'⟩, hc'⟩ := ho
  refine ⟨F', row_same h1 fun k hk => hc'.block k (World.ownsRow.lt h1 k hk).2 (h7 k hk), h2, hc, hd, hD', fun q hq hf => ?_, h8.trans hb⟩
  rcases hF' q hf with h | h
  · exact h7 q hq h
  · have := (World.ownsRow.lt h1 q hq).2; omega
theorem ChI.below {w wr w' : World} {l : List (Value × List UInt8)} {q p n s dn dn' : Nat} {v : Value} {D : Dv} {F : Nat → Prop} {L : List (List (List UInt8))} {sf : Nat} {LD : List (Value × List UInt8)} (h : ChI w wr l q p n s dn v D F L sf LD) (hb : Below wr.heap.size wr w') (hd : dn ≤ dn') : ChI w w' l q p n s dn' v D F L sf LD := by
  obtain ⟨h1, h2, h4, h5, h6, h7, h8⟩ := h
  exact ⟨row_past h1 hb (Nat.le_refl _), h2, h4, by omega, h6.below hb, h7, h8.trans (hb.mono h8.size)⟩
theorem rng_snoc (M : List (List (List UInt8))) (R : List (List UInt8)) : List.range (M ++ [R]).length = List.range M.length ++ [M.length] := by
  rw [List.length_append, List.length_singleton, List.range_succ]
/-- the room of the last zone -/
theorem ChI.room {w wr : World} {l : List (Value × List UInt8)} {q p n s dn : Nat} {v : Value} {D : Dv} {F : Nat → Prop} {L : List (List (List UInt8))} {sf : Nat} {LD : List (Value × List UInt8)} (h : ChI w wr l q p n s dn v D F L sf LD) (hn : n ≤ 64) : ∃ r : Int, (∀ M R, L = M ++ [R] → r = zrm D (M.length : Nat)) ∧ Calls Tryd.prog 24 #[.pointer (some ⟨q, 0, none⟩)] wr fun e w' => e = .returned (.int .i64 r) ∧ Below wr.heap.size wr w' := by
  obtain ⟨h1, h2, h4, h5, h6, h7, h8⟩ := h
  rcases List.eq_nil_or_concat L with rfl | ⟨M, R, rfl⟩
  · exact ⟨0, fun M R e => by simp at e, LI.room_nil h6⟩
  · rw [List.concat_eq_append] at *
    rw [rng_snoc] at h6
    refine ⟨zrm D (M.length : Nat), fun M2 R2 e => ?_, h6.room_last (by have := h4.len; simp at this ⊢; omega)⟩
    obtain ⟨rfl, _⟩ := List.append_inj' e rfl
    rfl
set_option maxRecDepth 100000 in
set_option maxHeartbeats 16000000 in
theorem law09_g {w0 : World} {a ka : Option Addr} {c kc : Nat} {l : List (Value × List UInt8)} {K : List Int} (hT0 : Tab9 w0) (h0 : BSs w0 a l) (hl : l.length ≤ maxLen) (hK : IR w0 ka K) (hKl : K.length ≤ maxLen) (n s o : Nat) (fl : Int) (hg : gchk n s o = true) :
    Calls Tryd.prog 8 #[.agg #[.int .i64 n, .int .i64 s, .int .i64 o, .slice a l.length c, .int .i64 fl, .slice ka K.length kc]] w0 fun e w' => e = .returned (.bool true) ∧ Below w0.heap.size w0 w' := by
  have hlm := hl
  unfold maxLen at hl hKl
  have hb0 := (Below.refl w0.heap.size w0).alloc (Nat.le_refl _) (.cells #[.int .i64 n, .int .i64 s, .int .i64 o, .slice a l.length c, .int .i64 fl, .slice ka K.length kc] 50)
  obtain ⟨q0, q1, q2, q3, q4, q5⟩ := cell_six (heap_alloc_new w0 (.cells #[.int .i64 n, .int .i64 s, .int .i64 o, .slice a l.length c, .int .i64 fl, .slice ka K.length kc] 50))
  have hzz : w0.heap.size < (w0.alloc (.cells #[.int .i64 n, .int .i64 s, .int .i64 o, .slice a l.length c, .int .i64 fl, .slice ka K.length kc] 50)).heap.size := by simp
  have HB0 := Lib.hid hb0
  have hg2 : (1 : Int) ≤ n ∧ (n : Int) ≤ 64 ∧ (16 : Int) ≤ s ∧ (s : Int) ≤ 65536 ∧ (1 : Int) ≤ o ∧ (o : Int) ≤ n := of_decide_eq_true hg
  have hn64 : n ≤ 64 := by omega
  have HK : Hid (KZ w0 ka K) := Lib.hid hK.1
  go_enter Tryd.func8, Tryd.ntmps8
  go_upto_region 1 with (fail)
  clear hb0
  generalize w0.alloc (.cells #[.int .i64 n, .int .i64 s, .int .i64 o, .slice a l.length c, .int .i64 fl, .slice ka K.length kc] 50) = w at *
  have h := h0.below HB0.out
  have hT := hT0.below HB0.out
  have Q0 := Lib.hid (cell_next q0)
  have Q1 := Lib.hid (cell_next q1)
  have Q2 := Lib.hid (cell_next q2)
  have Q3 := Lib.hid (cell_next q3)
  have Q4 := Lib.hid (cell_next q4)
  have Q5 := Lib.hid (cell_next q5)
  have H := Lib.hid h
  have HT := Lib.hid hT
  have HN := Lib.hid (DI.new w n s o hg)
  have HC : Hid (∀ W, Calls Tryd.prog 23 #[.agg #[.int .i64 n, .int .i64 s, .int .i64 o]] W fun e w' => e = .returned (.bool true) ∧ Below W.heap.size W w') := Lib.hid fun W => by
    have := zcheck W n s o
    rw [hg] at this; exact this
  clear h hT h0 hT0 hK hg hg2 q3 q4 q5
  go_wp2_with fail; (with_reducible refine (HN.out).mono ?_); rintro e w1 ⟨p, F1, rfl, hD1, hb1⟩
  have HD1 := Lib.hid hD1
  have HB1 := Lib.hid hb1
  have hsm : Calls Tryd.prog 17 #[.slice a l.length c, .int .i64 80] w1 _ := small9 (c := c) (H.out.below hb1) hlm 80 (by decide)
  have HSm := Lib.hid hsm
  have k3 := Q3.out _ hb1
  clear hD1 hb1 HN hsm q0 q1 q2
  go_wp2_with fail; (with_reducible refine (HSm.out).mono ?_); rintro e w2 ⟨sm, rfl, hsmz, hb2⟩
  have HB2 := Lib.hid (HB1.out.trans (hb2.mono HB1.out.size))
  have HD2 := Lib.hid (HD1.out.below hb2)
  have HSZ := Lib.hid hsmz
  have k0 := Q0.out _ HB2.out
  have k1 := Q1.out _ HB2.out
  have k2 := Q2.out _ HB2.out
  clear hb2 hsmz HSm HD1 HB1 k3
  have h3 : sm = false ∨ (sm = true ∧ 3000 < s) ∨ (sm = true ∧ s ≤ 3000) := by
    cases sm with
    | false => exact .inl rfl
    | true => rcases Nat.lt_or_ge 3000 s with h | h; exact .inr (.inl ⟨rfl, h⟩); exact .inr (.inr ⟨rfl, h⟩)
  rcases h3 with rfl | ⟨rfl, hs3⟩ | ⟨rfl, hs3⟩
  · go_wp2_with fail; (with_reducible refine (HC.out _).mono ?_); rintro e w3 ⟨rfl, hb3⟩
    have hb23 := HB2.out.trans (hb3.mono HB2.out.size)
    go_wp2_with fail; (with_reducible refine (awake09 (HT.out.below hb23)).mono ?_); rintro e w4 ⟨rfl, hb4⟩
    go_wp2
    go_ret
    exact ⟨rfl, HB0.out.trans ((hb23.trans (hb4.mono hb23.size)).mono HB0.out.size)⟩
  · go_wp2_with fail; (with_reducible refine (HC.out _).mono ?_); rintro e w3 ⟨rfl, hb3⟩
    have hb23 := HB2.out.trans (hb3.mono HB2.out.size)
    go_wp2_with fail; (with_reducible refine (awake09 (HT.out.below hb23)).mono ?_); rintro e w4 ⟨rfl, hb4⟩
    go_wp2
    go_ret
    exact ⟨rfl, HB0.out.trans ((hb23.trans (hb4.mono hb23.size)).mono HB0.out.size)⟩
  · obtain ⟨h300, hlc⟩ := HSZ.out.1 rfl
    have H300 := Lib.hid h300
    have hnew : Calls Tryd.prog 20 #[.pointer (some ⟨p, 0, none⟩), .slice none 0 0] w2 fun e w' => ∃ q F, e = .returned (.pointer (some ⟨q, 0, none⟩)) ∧ LI w' w.heap.size q p F (dv0 n s o) [] ∧ Below w2.heap.size w2 w' := lnew (zs := []) (a := none) (c := 0) HD2.out (fun h => absurd h (Nat.lt_irrefl _)) (fun _ => rfl) (by decide)
    have HNew := Lib.hid hnew
    have HS3 := Lib.hid hs3
    clear hnew h300
    go_wp2_with fail; (with_reducible refine (HNew.out).mono ?_); rintro e w3 ⟨q, F3, rfl, hL3, hb3⟩
    have HL3 := Lib.hid hL3
    have HB3 := Lib.hid (HB2.out.trans (hb3.mono HB2.out.size))
    have HRm := Lib.hid hL3.room_nil
    clear hL3 hb3 HNew HD2 HB2 k0 k1 k2 HC
    go_wp2_with fail; (with_reducible refine (HRm.out).mono ?_); rintro e w4 ⟨rfl, hb4⟩
    have HL4 := Lib.hid (HL3.out.below hb4)
    have HB4 := Lib.hid (HB3.out.trans (hb4.mono HB3.out.size))
    have k3 := Q3.out _ HB4.out
    clear hb4 HRm HL3 HB3
    go_wp2
    go_loopw [5, 6, 7, 60] (fun v nx sv i wr => ∃ (k nn : Nat) (D : Dv) (F : Nat → Prop) (L : List (List (List UInt8))) (sf : Nat) (LD : List (Value × List UInt8)), k ≤ l.length ∧ i = .int .i64 k ∧ nx = .int .i64 nn ∧ nn = L.length ∧ sv = .int .i64 sf ∧ LD.map (·.2) = L.flatten ∧ LD.length ≤ k ∧ ChI w wr l q p n s (2 * k) v D F L sf LD) (fun _ _ _ i _ => l.length - (intOf i).toNat)
    case atStart => exact ⟨0, 0, dv0 n s o, F3, [], 0, [], Nat.zero_le _, rfl, rfl, rfl, rfl, rfl, Nat.le_refl _, World.ownsRow_nil _ _ _ _, fun x hx => (nomatch hx), CI.new n s o, Nat.le_refl _, HL4.out, fun q hq => by simp [Value.ownBlock] at hq, HB4.out⟩
    case round =>
      clear HL4 HB4 k3
      obtain ⟨k, nn, D, F, L, sf, LD, hk, rfl, rfl, hnn, rfl, hmp, hldk, hch⟩ := hrel
      have HNN := Lib.hid hnn
      have HMP := Lib.hid hmp
      have HCH := Lib.hid hch
      have hbr : Below w.heap.size w wr := hch.2.2.2.2.2.2
      obtain ⟨va, vc, rfl, hvc, hvm, _⟩ := row_shape hch.1
      have hLDn : LD.length = L.flatten.length := by rw [← hmp, List.length_map]
      have HLDn := Lib.hid hLDn
      clear hnn hmp hch hLDn
      by_cases hlt : k < l.length
      · obtain ⟨b, off, ao, cc, rfl, hve, f0, hrb, hmx⟩ := H.out.cell hbr k hlt
        have hrw := (H.out.2 _ (List.getElem_mem hlt)).1
        have hm3 := H300.out _ (List.getElem_mem hlt)
        have hmem : l[k] ∈ l := List.getElem_mem hlt
        rw [hve] at hrw
        have HRW := Lib.hid hrw
        have HVE := Lib.hid hve
        have HMem := Lib.hid hmem
        clear hve hrw hmem hrb hmx
        generalize l[k] = x at *
        have k4 := Q4.out _ hbr
        obtain ⟨tb, htb⟩ : ∃ tb, ((k : Int) == fl) = tb := ⟨_, rfl⟩
        go_upto_if 68 with (fail)
        have Htb := Lib.hid htb
        clear htb
        go_cut [7] from 69 to 73 (fun sv wx => ∃ D' F' sf', sv = .int .i64 ((sf' : Nat) : Int) ∧ ChI w wx l q p n s (2 * k + 1) (.slice va LD.length vc) D' F' L sf' LD)
        case first =>
          cases tb with
          | true =>
            obtain ⟨D', hz, hci, hdn', _⟩ := HCH.out.2.2.1.flush
            have hbd := HCH.out.2.2.2.1
            have HSy := Lib.hid (HCH.out.2.2.2.2.1.sync (by omega) hz)
            have HCI : Hid (CI n s D' L LD.length) := Lib.hid (by rw [HLDn.out]; exact hci)
            clear Htb hz hci
            go_wp2_with fail; (with_reducible refine (HSy.out).mono ?_); rintro e w4 ⟨rfl, ho4⟩
            obtain ⟨F4, hx⟩ := HCH.out.turn (dn' := 2 * k + 1) HCI.out (by omega) ho4
            have HX := Lib.hid hx
            clear ho4 hx HSy HCI
            go_wp2
            go_meet
            exact ⟨D', F4, LD.length, rfl, HX.out⟩
          | false =>
            clear Htb
            go_wp2
            go_meet
            exact ⟨D, F, sf, rfl, HCH.out.below (Below.refl _ _) (by omega)⟩
        case rest =>
          obtain ⟨D1, F1, sf1, rfl, hch1⟩ := hcut
          have HC1 := Lib.hid hch1
          have hb1c := hch1.2.2.2.2.2.2
          clear hch1 HCH Htb hbr k4 f0
          by_cases hm0 : x.2.length = 0
          · have hb0 : ((x.2.length : Int) == 0) = true := by rw [beq_iff_eq]; omega
            obtain ⟨D5, hz, hci, hdn5, hff⟩ := HC1.out.2.2.1.flush
            have hbd := HC1.out.2.2.2.1
            have HSy := Lib.hid (HC1.out.2.2.2.2.1.sync (by omega) hz)
            have HCI : Hid (CI n s D5 L LD.length) := Lib.hid (by rw [HLDn.out]; exact hci)
            have HFF := Lib.hid hff
            clear hm0 hz hci hff
            go_wp2_with fail; (with_reducible refine (HSy.out).mono ?_); rintro e w5 ⟨rfl, ho5⟩
            obtain ⟨F5, hx5⟩ := HC1.out.turn (dn' := 2 * (k + 1)) HCI.out (by omega) ho5
            have HX5 := Lib.hid hx5
            have hb5 := hx5.2.2.2.2.2.2
            clear ho5 hx5 HSy
            by_cases hgn : nn < n
            · have hG : Calls Tryd.prog 26 #[.pointer (some ⟨q, 0, none⟩), .int .i64 (nn : Nat)] w5 fun e w' => e = .returned (.int .i64 0) ∧ LOut w5 w.heap.size q p F5 D5 (List.range (L ++ [[]]).length) w' := by
                rw [rng_snoc, HNN.out]
                exact HX5.out.2.2.2.2.1.grow L.length (HX5.out.2.2.1.zst_in (by rw [← HNN.out]; exact hgn)) (by simp) (by rw [List.length_range, ← HNN.out]; omega)
              have HG := Lib.hid hG
              have HCG : Hid (CI n s D5 (L ++ [[]]) LD.length) := Lib.hid (HCI.out.grow HLDn.out HFF.out (by rw [← HNN.out]; exact hgn))
              have hd : decide ((nn : Int) < (n : Int)) = true := decide_eq_true (by omega)
              clear hG HFF HCI
              go_wp2_with fail; (with_reducible refine (HG.out).mono ?_); rintro e w6 ⟨rfl, ho6⟩
              obtain ⟨F6, hx6⟩ := HX5.out.turn (dn' := 2 * (k + 1)) HCG.out (by omega) ho6
              have HX6 := Lib.hid hx6
              have k0 := Q0.out _ hx6.2.2.2.2.2.2
              clear ho6 hx6 HG HCG
              go_wp2
              go_roundw
              case rel => exact ⟨k + 1, nn + 1, D5, F6, L ++ [[]], LD.length, LD, by omega, by go_num, by go_num, by rw [HNN.out, List.length_append]; rfl, rfl, by rw [List.flatten_append, HMP.out]; simp, by omega, HX6.out⟩
              case measure => simp [intOf]; omega
            · have hG : Calls Tryd.prog 26 #[.pointer (some ⟨q, 0, none⟩), .int .i64 (nn : Nat)] w5 fun e w' => e = .returned (.int .i64 71) ∧ w5 = w' := by
                rw [HNN.out]
                exact HX5.out.2.2.2.2.1.grow_no L.length (HX5.out.2.2.1.zst_out (by rw [← HNN.out]; exact hgn))
              have HG := Lib.hid hG
              have hd : decide ((nn : Int) < (n : Int)) = false := decide_eq_false (by omega)
              have k0 := Q0.out _ hb5
              clear hG HFF HCI
              go_wp2_with fail; (with_reducible refine (HG.out).mono ?_); rintro e w6 ⟨rfl, rfl⟩
              go_wp2
              go_roundw
              case rel => exact ⟨k + 1, nn, D5, F5, L, LD.length, LD, by omega, by go_num, rfl, HNN.out, rfl, HMP.out, by omega, HX5.out⟩
              case measure => simp [intOf]; omega
          · have hb0 : ((x.2.length : Int) == 0) = false := by rw [beq_eq_false_iff_ne]; omega
            obtain ⟨fn, hfn⟩ : ∃ fn, (frB x.2).length = fn := ⟨_, rfl⟩
            have HSz : Hid (∀ W : World, Calls Tryd.prog 14 #[.int .i64 (x.2.length : Nat)] W fun e w' => e = .returned (.int .i64 (fn : Nat)) ∧ W = w') := Lib.hid fun W => by
              have := rsize_any x.2.length W (by omega)
              rw [← frB_len, hfn] at this
              exact this
            have hf5 := frB_pos x.2
            rw [hfn] at hf5
            have HFn := Lib.hid hfn
            have hdone := HC1.out.2.2.2.1
            have hds : Hid (D1.size = s) := Lib.hid HC1.out.2.2.1.ds
            obtain ⟨r, hr1, hr2⟩ := HC1.out.room hn64
            have HR1 := Lib.hid hr1
            have HRm := Lib.hid hr2
            clear hm0 hfn hr1 hr2
            go_wp2_with fail; (with_reducible refine (HSz.out _).mono ?_); rintro e w5 ⟨rfl, hw5⟩
            subst hw5
            go_wp2_with fail; (with_reducible refine (HRm.out).mono ?_); rintro e w5 ⟨rfl, hb5⟩
            have HX5 := Lib.hid (HC1.out.below hb5 (Nat.le_refl _))
            have HB5 := Lib.hid (hb1c.trans (hb5.mono hb1c.size))
            clear hb5 HRm HC1 hb1c
            have hR5 := HRW.out.below HB5.out
            by_cases hsf : s < fn
            · have HA := Lib.hid (HX5.out.2.2.2.2.1.append_large (HT.out.below HB5.out) hR5 (by omega) (by rw [hds.out, HFn.out]; exact hsf))
              clear hR5
              go_wp2_with fail; (with_reducible refine (HA.out).mono ?_); rintro e w6 ⟨rfl, hb6⟩
              have HX6 := Lib.hid (HX5.out.below hb6 (show 2 * k + 1 ≤ 2 * (k + 1) by omega))
              have k1 := Q1.out _ (HB5.out.trans (hb6.mono HB5.out.size))
              clear hb6 HA HX5
              go_wp2
              go_roundw
              case rel => exact ⟨k + 1, nn, D1, F1, L, sf1, LD, by omega, by go_num, rfl, HNN.out, rfl, HMP.out, by omega, HX6.out⟩
              case measure => simp [intOf]; omega
            · rcases List.eq_nil_or_concat L with hL | ⟨M, R, hL⟩
              · subst hL
                have hn0 : nn = 0 := HNN.out
                subst hn0
                have HA := Lib.hid (LI.append_none HX5.out.2.2.2.2.1 (HT.out.below HB5.out) hR5 (by omega) (by rw [hds.out, HFn.out]; omega))
                clear hR5
                go_wp2_with fail; (with_reducible refine (HA.out).mono ?_); rintro e w6 ⟨rfl, hb6⟩
                have HX6 := Lib.hid (HX5.out.below hb6 (show 2 * k + 1 ≤ 2 * (k + 1) by omega))
                have k1 := Q1.out _ (HB5.out.trans (hb6.mono HB5.out.size))
                clear hb6 HA HX5
                go_wp2
                go_roundw
                case rel => exact ⟨k + 1, 0, D1, F1, [], sf1, LD, by omega, by go_num, rfl, rfl, rfl, HMP.out, by omega, HX6.out⟩
                case measure => simp [intOf]; omega
              · rw [List.concat_eq_append] at hL
                subst hL
                obtain ⟨ml, hml⟩ : ∃ ml, M.length = ml := ⟨_, rfl⟩
                have hn0 : nn = ml + 1 := by rw [HNN.out, List.length_append, hml]; rfl
                have HLI : Hid (LI w5 w.heap.size q p F1 D1 (List.range M.length ++ [M.length])) := Lib.hid (by have := HX5.out.2.2.2.2.1; rw [rng_snoc] at this; exact this)
                have hm64 : ml ≤ 64 := by have := HX5.out.2.2.1.len; rw [List.length_append, hml] at this; simp at this; omega
                have hrr := HR1.out M R rfl
                rw [hml] at hrr
                have HML := Lib.hid hml
                have hnz : ((nn : Int) == 0) = false := by rw [beq_eq_false_iff_ne]; omega
                have hpl : (((ml : Nat) : Int) != ((nn : Nat) : Int) - 1) = false := by rw [bne_eq_false_iff_eq]; omega
                have hn65 : nn ≤ 65 := by omega
                have hn1 : 1 ≤ nn := by omega
                have HN0 := Lib.hid hn0
                clear hn0
                by_cases hrf : r < (fn : Int)
                · have HA := Lib.hid (HLI.out.append_full (by rw [List.length_range, hml]; omega) (HT.out.below HB5.out) hR5 (by omega) (by rw [hds.out, HFn.out]; omega) (by rw [hml, ← hrr, HFn.out]; exact hrf))
                  clear hR5 hrr hml HLI
                  go_wp2_with fail; (with_reducible refine (HA.out).mono ?_); rintro e w6 ⟨rfl, hb6⟩
                  have HX6 := Lib.hid (HX5.out.below hb6 (show 2 * k + 1 ≤ 2 * (k + 1) by omega))
                  have k1 := Q1.out _ (HB5.out.trans (hb6.mono HB5.out.size))
                  clear hb6 HA HX5
                  go_wp2
                  go_roundw
                  case rel => exact ⟨k + 1, nn, D1, F1, M ++ [R], sf1, LD, by omega, by go_num, rfl, HNN.out, rfl, HMP.out, by omega, HX6.out⟩
                  case measure => simp [intOf]; omega
                · rw [hml] at HLI
                  have hrg := rng_snoc M R
                  have hrg2 := rng_snoc M (R ++ [x.2])
                  rw [hml] at hrg hrg2
                  have hap := HX5.out.2.2.1.append hm3 (by rw [hml, ← hrr, HFn.out]; omega)
                  rw [hml] at hap
                  rcases hap with h72 | ⟨D', hz, hci, hdn', hp1, hp2, hlr, hfit⟩
                  · have HA := Lib.hid (HLI.out.append_err (er := 72) (D' := D1) (by rw [List.length_range]; omega) (HT.out.below HB5.out) hR5 (by omega) (by rw [hds.out, HFn.out]; omega) (by rw [← hrr, HFn.out]; omega) (by omega) h72 (by decide))
                    have Hrg := Lib.hid hrg
                    clear hR5 hrr hml HLI h72 hrg hrg2
                    go_wp2_with fail; (with_reducible refine (HA.out).mono ?_); rintro e w6 ⟨rfl, ho6⟩
                    rw [← Hrg.out] at ho6
                    obtain ⟨F6, hx6⟩ := HX5.out.turn (dn' := 2 * (k + 1)) HX5.out.2.2.1 (by omega) ho6
                    have HX6 := Lib.hid hx6
                    have k1 := Q1.out _ hx6.2.2.2.2.2.2
                    clear ho6 hx6 HA HX5
                    go_wp2
                    go_roundw
                    case rel => exact ⟨k + 1, nn, D1, F6, M ++ [R], sf1, LD, by omega, by go_num, rfl, HNN.out, rfl, HMP.out, by omega, HX6.out⟩
                    case measure => simp [intOf]; omega
                  · obtain ⟨a0, ha0⟩ : ∃ a0, (flR R).length = a0 := ⟨_, rfl⟩
                    rw [ha0] at hp1 hp2 hlr hfit
                    rw [HFn.out, hds.out] at hfit
                    rw [HFn.out] at hp2
                    obtain ⟨pn, hpn⟩ : ∃ pn, a0 + fn = pn := ⟨_, rfl⟩
                    rw [hpn] at hp2
                    have hpa : (((a0 : Nat) : Int) != ((pn : Nat) : Int) - ((fn : Nat) : Int)) = false := by rw [bne_eq_false_iff_eq]; omega
                    have hpf : fn ≤ pn := by omega
                    have hpz : pn ≤ 1000000 := by have := HS3.out; omega
                    clear hpn hfit
                    have hA := HLI.out.append (er := 0) (D' := D') (by rw [List.length_range]; omega) (HT.out.below HB5.out) hR5 (by omega) (by rw [hds.out, HFn.out]; omega) (by rw [← hrr, HFn.out]; omega) (by omega) hz rfl
                    rw [hp1] at hA
                    have HA := Lib.hid hA
                    have Hrg2 := Lib.hid hrg2
                    have HCI := Lib.hid hci
                    have HP2 := Lib.hid hp2
                    have HLr := Lib.hid hlr
                    have hdd : D'.done ≤ 2 * (k + 1) := by omega
                    clear hR5 hrr hml HLI hrg hrg2 hA ha0 hz hci hp1 hp2 hlr hdn' hdone
                    go_wp2_with fail; (with_reducible refine (HA.out).mono ?_); rintro e w6 ⟨rfl, ho6⟩
                    rw [← Hrg2.out] at ho6
                    obtain ⟨F6, hx6⟩ := HX5.out.turn (dn' := 2 * (k + 1)) HCI.out hdd ho6
                    have HX6 := Lib.hid hx6
                    have hb6 := hx6.2.2.2.2.2.2
                    have k1 := Q1.out _ hb6
                    have hpt : Calls Tryd.prog 27 #[.pointer (some ⟨p, 0, none⟩), .int .i64 (ml : Nat)] w6 fun e w' => e = .returned (.int .i64 (pn : Nat)) ∧ w6 = w' := by
                      have := hx6.2.2.2.2.1.pointer (ml : Nat)
                      rw [HP2.out] at this
                      exact this
                    have HPt := Lib.hid hpt
                    have hli6 : LI w6 w.heap.size q p F6 D' (List.range ml ++ [ml]) := by have := hx6.2.2.2.2.1; rw [Hrg2.out] at this; exact this
                    have HRl := Lib.hid (hli6.room_last (by rw [List.length_range]; omega))
                    have HDr : Hid (∀ W, Below w6.heap.size w6 W → Calls Tryd.prog 28 #[.pointer (some ⟨p, 0, none⟩), .int .i64 (ml : Nat)] W fun e w' => e = .returned (.int .i64 (zrm D' (ml : Nat))) ∧ Below W.heap.size W w') := Lib.hid fun W hW => (hli6.below hW).droom _
                    have HRa : Hid (∀ W, Below w6.heap.size w6 W → Calls Tryd.prog 22 #[.pointer (some ⟨q, 0, none⟩), .int .i64 (ml : Nat), .int .i64 (a0 : Nat), .int .i64 (x.2.length : Nat)] W fun e w' => ∃ v, e = .returned (.tuple #[v, .int .i64 0]) ∧ OB w' W.heap.size v x.2 ∧ Below W.heap.size W w') := Lib.hid fun W hW => by
                      have := (hli6.below hW).readAt (HT.out.below (hb6.trans (hW.mono hb6.size))) (ml : Nat) (a0 : Nat) (x.2.length : Nat)
                      rw [HLr.out] at this
                      exact this
                    have HB6 := Lib.hid hb6
                    clear ho6 hx6 HA HX5 hb6 hpt hli6 HP2 HLr
                    generalize zrm D' (ml : Nat) = r2 at *
                    go_wp2_with fail; (with_reducible refine (HPt.out).mono ?_); rintro e w7 ⟨rfl, hw7⟩
                    subst hw7
                    go_wp2_with fail; (with_reducible refine (HRl.out).mono ?_); rintro e w7 ⟨rfl, hb7⟩
                    go_wp2_with fail; (with_reducible refine (HDr.out _ hb7).mono ?_); rintro e w8 ⟨rfl, hb8⟩
                    have hb68 := hb7.trans (hb8.mono hb7.size)
                    go_wp2_with fail; (with_reducible refine (HRa.out _ hb68).mono ?_); rintro e w9 ⟨v9, rfl, ho9, hb9⟩
                    have hb69 := hb68.trans (hb9.mono hb68.size)
                    obtain ⟨a9, n9, c9, rfl, hm9⟩ := ho9.shape
                    obtain rfl := ho9.len
                    have HX9 := Lib.hid (HX6.out.below hb69 (Nat.le_refl _))
                    have HSa := Lib.hid (same_b ho9.reads (HRW.out.below HX9.out.2.2.2.2.2.2) true (by simp))
                    clear hb7 hb8 hb68 hb9 hb69 ho9 HPt HRl HDr HRa HX6 HB6
                    go_wp2_with fail; (with_reducible refine (HSa.out).mono ?_); rintro e w10 ⟨rfl, hb10⟩
                    have HX10 := Lib.hid (HX9.out.below hb10 (Nat.le_refl _))
                    clear hb10 HSa HX9
                    have hzw := HX10.out.2.2.2.2.2.2.size
                    have hld : LD.length ≤ 1000000 := by omega
                    have HZ : Hid (∀ v' w', w'.ownsRow w.heap.size 22 1 v' (LD.length + 1) (LD.map (·.1) ++ [.slice ao x.2.length cc]) → App w10 w' (.slice va LD.length vc) v' → (∃ a c, v' = .slice a (LD.length + 1) c) ∧ ChI w w' l q p n s (2 * (k + 1)) v' D' F6 (M ++ [R ++ [x.2]]) sf1 (LD ++ [x])) := Lib.hid fun v' w' h1 h2 => by
                      obtain ⟨g1, g2, g4, g5, g6, g7, g8⟩ := HX10.out
                      obtain ⟨a', c', hv, _⟩ := row_shape h1
                      refine ⟨⟨a', c', hv⟩, by rw [List.length_append, List.map_append, List.map_singleton, HVE.out]; exact h1, fun y hy => ?_, g4, g5, g6.chg (Chg.of_app h2) (fun q hq e => g7 q e hq), fun q hq hf => ?_, g8.trans ((Chg.of_app h2).below (fun q hq => (World.ownsRow.lt g1 q hq).1) g8.size)⟩
                      · rw [List.mem_append] at hy
                        rcases hy with hy | hy
                        · exact g2 y hy
                        · obtain rfl : y = x := by simpa using hy
                          exact HMem.out
                      · rcases h2.lies with e | ⟨g, e, hg⟩
                        · exact g7 q (by rw [← e]; exact hq) hf
                        · rw [e] at hq; cases hq; have := (g6.ge _ hf).2; omega
                    obtain ⟨i0, hi, hz0, hz1, hz2⟩ := info_parts infoSl9
                    go_wp2_with (at_builtin; go_loud (refine wpList_appN rfl (.tmp 171) (.tmp 173) 25 22 i0 (.slice none 0 0) 1 24 Tryd.underlying25 hi hz0 hz1 hz2 rfl (by decide) rfl w.heap.size _ LD.length _ rfl HX10.out.1 #[.slice ao x.2.length cc] 1 1 (by first | rfl | (simp; done) | (simp; rfl)) rfl (by simp [Value.oneCell']) (by unfold maxLen; omega) (by omega) hzw ?_); intro v11 w11 ho11 _ ha11; have hz11 := HZ.out _ _ ho11 ha11; obtain ⟨⟨a11, c11, rfl⟩, hx11⟩ := hz11; have HX11 := Lib.hid hx11; clear ho11 ha11 hx11)
                    go_roundw
                    case rel => exact ⟨k + 1, nn, D', F6, M ++ [R ++ [x.2]], sf1, LD ++ [x], by omega, by go_num, rfl, by rw [List.length_append, HML.out, HN0.out]; rfl, rfl, by rw [List.map_append, HMP.out]; simp, by rw [List.length_append, List.length_singleton]; omega, by rw [List.length_append] at *; exact HX11.out⟩
                    case measure => simp [intOf]; omega
      · obtain rfl : k = l.length := by omega
        have hKl2 : K.length ≤ 9223372036854775807 := by omega
        obtain ⟨g1, g2, g4, g5, g6, g7, g8⟩ := HCH.out
        have HRe := Lib.hid (g6.replay (L := L) (HT.out.below hbr) g4.down (by rw [g4.dn]; exact g4.len) g4.scans (fun k h1 h2 _ => (g4.b k h1 h2).symm) true ⟨fun _ k h1 h2 => (g4.b k h1 h2).symm, fun _ => rfl⟩)
        have hfar : ∀ b off, 0 < K.length → ka = some ⟨b, off, none⟩ → ¬ F b := fun b off hp e hf => by
          have h1 : b < w0.heap.size := KZ.lt HK.out hp b off e
          have h2 := (g6.ge b hf).1
          omega
        have HFar := Lib.hid hfar
        obtain ⟨L', cw, p1, p2, p3, p4, p5, p6, p7, p8⟩ := g4.crash g6.ok K
        have hLn : L.length ≤ n := g4.len
        have HLn := Lib.hid hLn
        have hrg : (List.range L.length).length = nn := by rw [List.length_range, HNN.out]
        have Hrg := Lib.hid hrg
        have hl64 : L.length ≤ 64 := by omega
        have hlD : LD.length ≤ 80 := by omega
        have HP : Hid (L'.length = L.length ∧ (zcrs D K).down = false ∧ (zcrs D K).n = n ∧ L'.flatten = L.flatten.take cw ∧ sf ≤ cw ∧ cw ≤ L.flatten.length ∧ (∀ k (h1 : k < L'.length) (h2 : k < (zcrs D K).A.length), ScanIs (zcrs D K).A[k].b L'[k]) ∧ (∀ k (h1 : k < L'.length) (h2 : k < (zcrs D K).A.length), k + 1 < L'.length → flR L'[k] = (zcrs D K).A[k].b)) := Lib.hid ⟨p1, p2, p3, p4, p5, p6, p7, p8⟩
        have HBr := Lib.hid hbr
        clear g1 g2 g4 g5 g6 g7 g8 hfar p1 p2 p3 p4 p5 p6 p7 p8 hbr hlt hldk hLn hrg
        go_wp2_with fail; (with_reducible refine (HRe.out).mono ?_); rintro e w5 ⟨xs, u, rfl, hrow5, hxs, hb5⟩
        have HX5 := Lib.hid (HCH.out.below hb5 (Nat.le_refl _))
        obtain ⟨xa, xc, rfl, hxm, hbs⟩ := hrow5.bss
        have hxn : xs.length = LD.length := by rw [HLDn.out, ← hxs, List.length_map]
        have hld : ∃ ao c, Value.slice va LD.length vc = .slice ao LD.length c ∧ c ≤ maxLen ∧ BSs w5 ao LD := bss_of_row HX5.out.1 rfl (fun y hy => by
          obtain ⟨h1, h2⟩ := H.out.2 y (HX5.out.2.1 y hy)
          exact ⟨h1.below HX5.out.2.2.2.2.2.2, h2⟩)
        obtain ⟨va', vc', hv, _, hbl⟩ := hld
        simp only [Value.slice.injEq] at hv
        obtain ⟨rfl, _, rfl⟩ := hv
        have HBL := Lib.hid hbl
        have hsame : Calls Tryd.prog 16 #[.slice xa xs.length xc, .slice va LD.length vc] w5 fun e w' => e = .returned (.bool true) ∧ Below w5.heap.size w5 w' := by
          have key : ∀ (P : List (Value × List UInt8)) (i j : Nat), i = P.length → j = P.length → P.length ≤ maxLen → P.length = LD.length → P.map (·.2) = LD.map (·.2) → BSs w5 xa P → Calls Tryd.prog 16 #[.slice xa i xc, .slice va j vc] w5 fun e w' => e = .returned (.bool true) ∧ Below w5.heap.size w5 w' := fun P i j hi hj hm hP hPm hB => by
            subst hi; subst hj
            refine same9 hB hm HBL.out hP fun j h1 h2 => ?_
            have := List.getElem_of_eq hPm (show j < (P.map (·.2)).length by rw [List.length_map]; exact h1)
            rw [List.getElem_map, List.getElem_map] at this
            exact this
          refine key (xs.map fun x => (x.v, x.l)) _ _ (by rw [List.length_map]) (by rw [List.length_map, hxn]) (by rw [List.length_map, hxn]; unfold maxLen; omega) (by rw [List.length_map, hxn]) ?_ hbs
          rw [HMP.out, ← hxs, List.map_map]; rfl
        have HSa := Lib.hid hsame
        clear hb5 hrow5 hxs hbs hxn hbl hsame HRe
        go_wp2_with fail; (with_reducible refine (HSa.out).mono ?_); rintro e w6 ⟨rfl, hb6⟩
        have HX6 := Lib.hid (HX5.out.below hb6 (Nat.le_refl _))
        have hzn : Calls Tryd.prog 30 #[.pointer (some ⟨q, 0, none⟩)] w6 fun e w' => ∃ a c, e = .returned (.slice a nn c) ∧ Below w6.heap.size w6 w' := by
          have := HX6.out.2.2.2.2.1.zones (by rw [List.length_range]; omega)
          rw [Hrg.out] at this
          exact this
        have HZn := Lib.hid hzn
        clear hb6 HSa HX5 HBL hzn
        go_wp2_with fail; (with_reducible refine (HZn.out).mono ?_); rintro e w7 ⟨za, zc, rfl, hb7⟩
        have HX7 := Lib.hid (HX6.out.below hb7 (Nat.le_refl _))
        have k5 := Q5.out _ HX7.out.2.2.2.2.2.2
        have HKz := Lib.hid (HK.out.below (HB0.out.trans ((HX7.out.2.2.2.2.2.2).mono HB0.out.size)))
        have HCr := Lib.hid (HX7.out.2.2.2.2.1.crash (ck := kc) (D' := zcrs D K) HKz.out rfl hKl2 (fun hp b off e => HFar.out b off hp e) rfl)
        clear hb7 HX6 HZn
        go_wp2_with fail; (with_reducible refine (HCr.out).mono ?_); rintro e w8 ⟨rfl, ho8⟩
        have hb8 := ho8.below HX7.out.2.2.2.2.1.ge HX7.out.2.2.2.2.1.room
        obtain ⟨⟨F8, hl8, _⟩, hc8⟩ := ho8
        have HB8 := Lib.hid (HX7.out.2.2.2.2.2.2.trans hb8)
        have HRow8 : Hid (w8.ownsRow w.heap.size 22 1 (.slice va LD.length vc) LD.length (LD.map (·.1))) := Lib.hid (row_same HX7.out.1 fun k hk => hc8.block k (World.ownsRow.lt HX7.out.1 k hk).2 (HX7.out.2.2.2.2.2.1 k hk))
        have HMe := Lib.hid HX7.out.2.1
        rw [← HP.out.1] at hl8
        have hn2 := HP.out.2.2.1
        obtain ⟨wh, hwh⟩ : ∃ wh : Bool, wh = true ↔ ∀ k (h1 : k < L'.length) (h2 : k < (zcrs D K).A.length), flR L'[k] = (zcrs D K).A[k].b := by
          classical exact ⟨decide (∀ k (h1 : k < L'.length) (h2 : k < (zcrs D K).A.length), flR L'[k] = (zcrs D K).A[k].b), by simp⟩
        have HRe := Lib.hid (hl8.replay (L := L') (HT.out.below HB8.out) HP.out.2.1 (by rw [HP.out.2.2.1, HP.out.1]; exact HLn.out) HP.out.2.2.2.2.2.2.1 HP.out.2.2.2.2.2.2.2 wh hwh)
        clear hb8 hl8 hc8 hn2 hwh HCr HX7 HKz k5
        go_wp2_with fail; (with_reducible refine (HRe.out).mono ?_); rintro e w9 ⟨ys, u9, rfl, hrow9, hys, hb9⟩
        have HB9 := Lib.hid (HB8.out.trans (hb9.mono HB8.out.size))
        obtain ⟨ya, yc, rfl, hym, hbs9⟩ := hrow9.bss
        have hyl : ys.length = cw := by
          have := congrArg List.length hys
          rw [List.length_map, HP.out.2.2.2.1, List.length_take] at this
          have := HP.out.2.2.2.2.2.1
          omega
        have hle : ys.length ≤ LD.length := by rw [hyl, HLDn.out]; exact HP.out.2.2.2.2.2.1
        have hsf : sf ≤ ys.length := by rw [hyl]; exact HP.out.2.2.2.2.1
        have hyvc : ys.length ≤ vc := by omega
        have hrow8 := row_past HRow8.out hb9 (Nat.le_refl _)
        have hld : ∃ ao c, Value.slice va LD.length vc = .slice ao LD.length c ∧ c ≤ maxLen ∧ BSs w9 ao LD := bss_of_row hrow8 rfl (fun y hy => by
          obtain ⟨h1, h2⟩ := H.out.2 y (HMe.out y hy)
          exact ⟨h1.below HB9.out, h2⟩)
        obtain ⟨va', vc', hv, _, hbl⟩ := hld
        simp only [Value.slice.injEq] at hv
        obtain ⟨rfl, _, rfl⟩ := hv
        have HBL := Lib.hid hbl
        have hsame : Calls Tryd.prog 16 #[.slice ya ys.length yc, .slice va ys.length vc] w9 fun e w' => e = .returned (.bool true) ∧ Below w9.heap.size w9 w' := by
          have key : ∀ (P Q : List (Value × List UInt8)) (i : Nat), i = P.length → P.length ≤ maxLen → P.length = Q.length → P.map (·.2) = Q.map (·.2) → BSs w9 ya P → BSs w9 va Q → Calls Tryd.prog 16 #[.slice ya i yc, .slice va i vc] w9 fun e w' => e = .returned (.bool true) ∧ Below w9.heap.size w9 w' := fun P Q i hi hm hP hPm hB hB2 => by
            subst hi
            refine same9 hB hm hB2 hP fun j h1 h2 => ?_
            have := List.getElem_of_eq hPm (show j < (P.map (·.2)).length by rw [List.length_map]; exact h1)
            rw [List.getElem_map, List.getElem_map] at this
            exact this
          refine key (ys.map fun x => (x.v, x.l)) (LD.take ys.length) _ (by rw [List.length_map]) (by rw [List.length_map]; unfold maxLen; omega) (by rw [List.length_map, List.length_take]; omega) ?_ hbs9 (bss_take HBL.out _)
          rw [List.map_take, HMP.out, hyl, ← HP.out.2.2.2.1, ← hys, List.map_map]; rfl
        have HSa := Lib.hid hsame
        have hmin : (min ((ys.length : Nat) : Int) ((LD.length : Nat) : Int)).toNat = ys.length := by omega
        have HSa : Hid (Calls Tryd.prog 16 #[.slice ya ys.length yc, .slice va (min ((ys.length : Nat) : Int) ((LD.length : Nat) : Int)).toNat vc] w9 fun e w' => e = .returned (.bool true) ∧ Below w9.heap.size w9 w') := Lib.hid (by rw [hmin]; exact HSa.out)
        have hlei : ((ys.length : Nat) : Int) ≤ ((LD.length : Nat) : Int) := by omega
        clear hb9 hrow9 hys hbs9 hyl hbl hsame HRe hrow8 hmin
        go_wp2_with fail; (with_reducible refine (HSa.out).mono ?_); rintro e w10 ⟨rfl, hb10⟩
        have HB10 := Lib.hid (HB9.out.trans (hb10.mono HB9.out.size))
        have HA := Lib.hid (awake09 (HT.out.below HB10.out))
        clear hb10 HSa
        go_wp2_with fail; (with_reducible refine (HA.out).mono ?_); rintro e w11 ⟨rfl, hb11⟩
        go_wp2
        go_ret
        exact ⟨rfl, HB0.out.trans ((HB10.out.trans (hb11.mono HB10.out.size)).mono HB0.out.size)⟩
theorem law09_ch {w0 : World} {a ka : Option Addr} {c kc : Nat} {l : List (Value × List UInt8)} {K : List Int} (hT0 : Tab9 w0) (h0 : BSs w0 a l) (hl : l.length ≤ maxLen) (hK : IR w0 ka K) (hKl : K.length ≤ maxLen) (gz gs go fl : Int) :
    Calls Tryd.prog 8 #[.agg #[.int .i64 gz, .int .i64 gs, .int .i64 go, .slice a l.length c, .int .i64 fl, .slice ka K.length kc]] w0 fun e w' => e = .returned (.bool true) ∧ Below w0.heap.size w0 w' := by
  cases hg : gchk gz gs go with
  | false => exact chain_not hT0 gz gs go fl hg
  | true =>
    have hg2 : (1 : Int) ≤ gz ∧ gz ≤ 64 ∧ (16 : Int) ≤ gs ∧ gs ≤ 65536 ∧ (1 : Int) ≤ go ∧ go ≤ gz := of_decide_eq_true hg
    obtain ⟨n, rfl⟩ := Int.eq_ofNat_of_zero_le (show 0 ≤ gz by omega)
    obtain ⟨s, rfl⟩ := Int.eq_ofNat_of_zero_le (show 0 ≤ gs by omega)
    obtain ⟨o, rfl⟩ := Int.eq_ofNat_of_zero_le (show 0 ≤ go by omega)
    exact law09_g hT0 h0 hl hK hKl n s o fl hg
end Go.Proofs.YtkflingpogokcaaDoor
