/- BlockBack: its walk. -/
import Derived.Test.YtebnllpcagkkbaaBkpl
import Derived.Test.YtebnllpcagkkbaaBlk2
namespace Go.Proofs.Ytebnllpcagkkbaa
open Go.RowKit
set_option linter.unusedVariables false
set_option linter.unusedSimpArgs false

theorem PRs.chg {F : Nat → Prop} {w w' : World} {a : Option Addr} {l : List PairD} (h : PRs w a l) (hc : Chg F w w') (hn : ∀ b off, a = some ⟨b, off, none⟩ → 0 < l.length → ¬ F b) : PRs w' a l := by
  refine ⟨fun hl => ?_, h.2⟩
  obtain ⟨b, off, rfl, hcs⟩ := h.1 hl
  refine ⟨b, off, rfl, fun i hi => ?_⟩
  obtain ⟨h0, h1⟩ := hcs i hi
  have hb := World.block_lt_of_cell? w _ h0
  have e := hc.block b hb (hn b off rfl hl)
  exact ⟨(World.cell?_of_block (w := w) e).trans h0, (World.cell?_of_block (w := w) e).trans h1⟩
theorem prs_ne {w : World} {B g : Nat} {M : List UInt8} {a : Option Addr} {l : List PairD} (h : PRs w a l) (ho : OB w B (.slice (some ⟨g, 0, none⟩) M.length M.length) M) : ∀ b off, a = some ⟨b, off, none⟩ → 0 < l.length → ¬ b = g := by
  rintro b off rfl hl rfl
  obtain ⟨b', off', he, hcs⟩ := h.1 hl
  cases he
  have h0 := (hcs 0 hl).1
  rcases ho.2 with ⟨hv, _⟩ | ⟨g', cap, cur, hv, _, hh, _, _, hsz, htk⟩
  · cases hv
  · simp only [Value.slice.injEq, Option.some.injEq, Addr.mk.injEq, and_true, true_and] at hv
    obtain ⟨rfl, rfl⟩ := hv
    rw [cell_of_row _ _ _ _ _ _ hh] at h0
    have hlt := (Array.getElem?_eq_some_iff.1 h0).1
    have e : cur.toList = bvs M := by
      rw [← htk, List.take_of_length_le]; rw [Array.length_toList]; omega
    have h1 : cur.toList[off + 0 * 2]? = some (.string l[0].key) := by rw [Array.getElem?_toList]; exact h0
    rw [e] at h1
    obtain ⟨u, _, hu⟩ := List.mem_map.1 (List.mem_of_getElem? h1)
    cases hu
theorem bv_of (z : Int) (h0 : 0 ≤ z) (h1 : z < 256) : Value.int .u8 z = bv (UInt8.ofNat z.toNat) := by
  unfold bv
  rw [toNat_ofNat8]
  congr 1
  omega

theorem xorByte (y : UInt8) : Value.int .u8 (bits .xor .u8 (if IntKind.u8.signed = true then -1 else IntKind.u8.max) (y.toNat : Int)) = bv (UInt8.ofNat (255 - y.toNat)) := by
  have h : ∀ x : Fin 256, bits .xor .u8 (if IntKind.u8.signed = true then -1 else IntKind.u8.max) ((x.val : Nat) : Int) = ((255 - x.val : Nat) : Int) := by decide +kernel
  have h2 := h ⟨y.toNat, y.toNat_lt⟩
  have e : (UInt8.ofNat (255 - y.toNat)).toNat = 255 - y.toNat := by rw [toNat_ofNat8]; omega
  unfold bv
  rw [e]
  exact congrArg _ h2

set_option maxRecDepth 100000 in
set_option maxHeartbeats 8000000 in
theorem bback12_yes {w : World} {a : Option Addr} {c : Nat} {l : List PairD} (h : PRs w a l) (hl : l.length ≤ maxLen) (every : Int) :
    Calls Try.prog 6 #[.slice a l.length c, .int .i64 every] w fun e w' => e = .returned (.bool true) ∧ Below w.heap.size w w' := by
  have H := Lib.hid h
  cases hs : small12 l with
  | false =>
    have H1 := Lib.hid (small12_any (c := c) h hl false hs)
    clear h hs
    go_enter Try.func6, Try.ntmps6
    go_wp2_with fail; (with_reducible refine (H1.out).mono ?_); rintro e w1 ⟨rfl, hb1⟩
    go_wp2_with fail; (with_reducible refine (awake12 _).mono ?_); rintro e w2 ⟨rfl, hb2⟩
    go_wp2
    go_ret
    exact ⟨rfl, bnext hb1 hb2⟩
  | true =>
    obtain ⟨hsz, hl80⟩ := small12_yes hs
    have Hsz := Lib.hid hsz
    have H1 := Lib.hid (small12_any (c := c) h hl true hs)
    have Hml := Lib.hid hl
    clear h hs hsz hl
    by_cases hev : 1 ≤ every ∧ every ≤ 64
    case neg =>
      have Hbr : Hid (∀ W, Calls Try.prog 15 #[.slice a l.length c, .int .i64 every] W fun e w' => e = .returned (.tuple #[.slice none 0 0, .int .i64 70]) ∧ W = w') := Lib.hid fun W => build_range every (by omega)
      have hev2 : every < 1 ∨ (1 ≤ every ∧ 64 < every) := by omega
      clear hev
      rcases hev2 with hev | ⟨hev, hev2⟩
      all_goals
        go_enter Try.func6, Try.ntmps6
        go_wp2_with fail; (with_reducible refine (H1.out).mono ?_); rintro e w1 ⟨rfl, hb1⟩
        go_wp2_with fail; (with_reducible refine (Hbr.out _).mono ?_); rintro e w2 ⟨rfl, rfl⟩
        go_wp2_with fail; (with_reducible refine (awake12 _).mono ?_); rintro e w3 ⟨rfl, hb3⟩
        go_wp2
        go_ret
        exact ⟨rfl, bnext hb1 hb3⟩
    case pos =>
      obtain ⟨ev, rfl⟩ := Int.eq_ofNat_of_zero_le (show 0 ≤ every by omega)
      have hv1 : 1 ≤ ev := by omega
      have hv2 : ev ≤ 64 := by omega
      clear hev
      have hbody : Hid (∀ e, (bodyB e l l.length).length < 4294967296) := Lib.hid fun e => by have := bodyB_small Hsz.out e l.length (Nat.le_refl _); omega
      have Hs6 : Hid (∀ x ∈ l, x.key.size ≤ 1000000 ∧ x.val.size ≤ 1000000) := Lib.hid fun x hx => by have := Hsz.out x hx; omega
      have Href : Hid (∀ W, Below w.heap.size w W → Calls Try.prog 14 #[.slice a l.length c] W fun e w' => ∃ a' c', e = .returned (.slice a' l.length c') ∧ PRs w' a' l ∧ Below W.heap.size W w') := Lib.hid fun W hb => ref12_any (H.out.below hb) (by omega)
      have Hor : Hid (∀ W a' c' z, PRs W a' l → risesB l = z → Calls Try.prog 13 #[.slice a' l.length c'] W fun e w' => e = .returned (.bool z) ∧ Below W.heap.size W w') := Lib.hid fun W a' c' z hp hz => rises_any hp Hml.out z hz
      cases hr : risesB l with
      | false =>
        have Hr := Lib.hid hr
        have Hbd : Hid (∀ W, Below w.heap.size w W → Calls Try.prog 15 #[.slice a l.length c, .int .i64 ev] W fun e w' => e = .returned (.tuple #[.slice none 0 0, .int .i64 31]) ∧ Below W.heap.size W w') := Lib.hid fun W hb =>
          build_no (H.out.below hb) ev hv1 hv2 (by omega) Hs6.out (hbody.out ev) (fun h => by have := Hr.out; rw [(risesB_iff l).2 h] at this; cases this)
        clear hr
        go_enter Try.func6, Try.ntmps6
        go_wp2_with fail; (with_reducible refine (H1.out).mono ?_); rintro e w1 ⟨rfl, hb1⟩
        go_wp2_with fail; (with_reducible refine (Hbd.out _ hb1).mono ?_); rintro e w2 ⟨rfl, hb2⟩
        have B2 := bnext hb1 hb2
        go_wp2_with fail; (with_reducible refine (Href.out _ B2).mono ?_); rintro e w3 ⟨a3, c3, rfl, hp3, hb3⟩
        have HP3 := Lib.hid hp3
        clear hp3
        go_wp2_with fail; (with_reducible refine (Hor.out _ _ _ false HP3.out Hr.out).mono ?_); rintro e w4 ⟨rfl, hb4⟩
        go_wp2_with fail; (with_reducible refine (awake12 _).mono ?_); rintro e w5 ⟨rfl, hb5⟩
        go_wp2
        go_ret
        exact ⟨rfl, bnext (bnext (bnext B2 hb3) hb4) hb5⟩
      | true =>
        have Hr := Lib.hid hr
        have Hbd : Hid (∀ W, Below w.heap.size w W → Calls Try.prog 15 #[.slice a l.length c, .int .i64 ev] W fun e w' => ∃ g, e = .returned (.tuple #[.slice (some ⟨g, 0, none⟩) (buildB ev l).length (buildB ev l).length, .int .i64 0]) ∧ OB w' W.heap.size (.slice (some ⟨g, 0, none⟩) (buildB ev l).length (buildB ev l).length) (buildB ev l) ∧ Below W.heap.size W w') := Lib.hid fun W hb =>
          build_yes (H.out.below hb) ev hv1 hv2 (by omega) Hs6.out (hbody.out ev) ((risesB_iff l).1 Hr.out)
        have Hrb : Hid (∀ W a' c', PRs W a' l → Calls Try.prog 22 #[.slice a' l.length c', .int .i64 ev] W fun e w' => ∃ v, e = .returned v ∧ RB w' v (buildB ev l) ∧ Below W.heap.size W w') := Lib.hid fun W a' c' hp => refbuild_any hp ev hv1 hv2 (by omega) Hs6.out (hbody.out ev)
        have hob := open_back ev l hv1 hv2 (by omega) Hs6.out hr
        have Hob := Lib.hid hob
        have hub : (buildB ev l).length ≤ 60000 := by
          have h1 := bodyB_small Hsz.out ev l.length (Nat.le_refl _)
          have h2 := starts_le ev l l.length
          rw [build_len]; omega
        clear hr hob
        generalize hbb : buildB ev l = bb at *
        clear hbb
        go_enter Try.func6, Try.ntmps6
        go_wp2_with fail; (with_reducible refine (H1.out).mono ?_); rintro e w1 ⟨rfl, hb1⟩
        go_wp2_with fail; (with_reducible refine (Hbd.out _ hb1).mono ?_); rintro e w2 ⟨g, rfl, ho2, hb2⟩
        have B2 := bnext hb1 hb2
        have HO2 := Lib.hid ho2
        have hgl : g < w2.heap.size := (ho2.lt rfl).2
        have hgw : w.heap.size ≤ g := Nat.le_trans hb1.size (ho2.lt rfl).1
        clear ho2
        go_wp2_with fail; (with_reducible refine (Href.out _ B2).mono ?_); rintro e w3 ⟨a3, c3, rfl, hp3, hb3⟩
        have HP3 := Lib.hid hp3
        have B3 := bnext B2 hb3
        clear hp3
        go_wp2_with fail; (with_reducible refine (Hor.out _ _ _ true HP3.out Hr.out).mono ?_); rintro e w4 ⟨rfl, hb4⟩
        have B4 := bnext B3 hb4
        go_wp2_with fail; (with_reducible refine (Href.out _ B4).mono ?_); rintro e w5 ⟨a5, c5, rfl, hp5, hb5⟩
        have HP5 := Lib.hid hp5
        have B5 := bnext B4 hb5
        clear hp5
        go_wp2_with fail; (with_reducible refine (Hrb.out _ _ _ HP5.out).mono ?_); rintro e w6 ⟨v6, rfl, hr6, hb6⟩
        have B6 := bnext B5 hb6
        have B26 := bnext (bnext (bnext hb3 hb4) hb5) hb6
        have HO6 := Lib.hid (HO2.out.past B26 (Nat.le_refl _))
        have hsm := same_b HO6.out.reads hr6 true (by simp)
        have Hsm := Lib.hid hsm
        clear hsm hr6 hb3 hb4 hb5 hb6 HP3 HP5 HO2
        go_wp2_with fail; (with_reducible refine (Hsm.out).mono ?_); rintro e w7 ⟨rfl, hb7⟩
        have B7 := bnext B6 hb7
        have HO7 := Lib.hid (HO6.out.past hb7 (Nat.le_refl _))
        have hg7 : g < w7.heap.size := Nat.lt_of_lt_of_le hgl (bnext B26 hb7).size
        have hop := open_any HO7.out.reads hub HO7.out.capm
        have Hop := Lib.hid hop
        clear hop hb7 HO6 Hsm B26
        go_wp2_with fail; (with_reducible refine (Hop.out).mono ?_); rintro e w8 hout
        obtain ⟨hb8, hout⟩ := hout
        rw [Hob.out.1] at hout
        obtain ⟨x, a8, c8, rfl, hx8, _, hp8⟩ := hout
        rw [Hob.out.2] at hx8
        have B8 := bnext B7 hb8
        have HO8 := Lib.hid (HO7.out.past hb8 (Nat.le_refl _))
        have HBK := Lib.hid (show BK w8 x a8 c8 l ev from ⟨hx8, hp8⟩)
        have HL8 := Lib.hid (H.out.below B8)
        have hg8 : g < w8.heap.size := Nat.lt_of_lt_of_le hg7 hb8.size
        clear hx8 hp8 hb8 HO7 Hop
        go_wp2
        go_loopw [71] (fun i wr => ∃ (k : Nat) (M : List UInt8), k ≤ bb.length ∧ i = .int .i64 k ∧ M.length = bb.length ∧ OB wr w1.heap.size (.slice (some ⟨g, 0, none⟩) bb.length bb.length) M ∧ BK wr x a8 c8 l ev ∧ PRs wr a l ∧ Below w.heap.size w wr) (fun i _ => bb.length - (intOf i).toNat)
        case atStart => exact ⟨0, bb, Nat.zero_le _, rfl, rfl, HO8.out, HBK.out, HL8.out, B8⟩
        case round =>
          obtain ⟨k, M, hk, rfl, hM, ho, hbk, hpl, hbr⟩ := hrel
          have HO := Lib.hid ho
          have HBr := Lib.hid hbk
          have HPl := Lib.hid hpl
          have HM := Lib.hid hM
          clear ho hbk hpl hM
          by_cases hlt : k < bb.length
          · have hkm : k < M.length := by rw [HM.out]; exact hlt
            have hcell := HO.out.cellN k hkm
            have hfz := HO.out.fz k
            have ho' : OB wr w1.heap.size (.slice (some ⟨g, 0, none⟩) M.length M.length) M := by rw [HM.out]; exact HO.out
            have hxg : x ≠ g := fun e => row_ne ho' HBr.out.1 (by decide) (by rw [e]; rfl)
            have hn1 := prs_ne HBr.out.2 ho'
            have hn2 := prs_ne HPl.out ho'
            have Hn := Lib.hid (And.intro hn1 hn2)
            clear ho' hn1 hn2
            generalize M[k] = y at *
            go_wp2
            go_roundw
            case rel =>
              rw [xorByte]
              exact ⟨k + 1, M.set k (UInt8.ofNat (255 - y.toNat)), by omega, by go_num, by rw [List.length_set]; exact HM.out, HO.out.set k _, ⟨blk_chg HBr.out.1 (Chg.set wr g k _) hxg, HBr.out.2.chg (Chg.set wr g k _) Hn.out.1⟩, HPl.out.chg (Chg.set wr g k _) Hn.out.2, hbr.setCell (p := ⟨g, k, none⟩) hgw _⟩
            case measure => simp [intOf]; omega
          · obtain rfl : k = bb.length := by omega
            have hln := blen_any HBr.out
            have hev := bevery_any HBr.out
            have Hln := Lib.hid hln
            have Hev := Lib.hid hev
            have HatQ : Hid (∀ W i, Below wr.heap.size wr W → i < l.length → Calls Try.prog 19 #[.pointer (some ⟨x, 0, none⟩), .int .i64 i] W fun e w' => e = .returned (.agg #[.string (pAt l i).key, .string (pAt l i).val]) ∧ Below W.heap.size W w') := Lib.hid fun W i hB hi => bat_in (HBr.out.below hB) Hml.out i hi
            have HatO : Hid (∀ W i, Below wr.heap.size wr W → (i < 0 ∨ (l.length : Int) ≤ i) → Calls Try.prog 19 #[.pointer (some ⟨x, 0, none⟩), .int .i64 i] W fun e w' => e = .returned (.agg #[.string ⟨#[]⟩, .string ⟨#[]⟩]) ∧ Below W.heap.size W w') := Lib.hid fun W i hB hi => bat_out (HBr.out.below hB) Hml.out i hi
            have Hrs : Hid (∀ W, Below wr.heap.size wr W → Calls Try.prog 23 #[.pointer (some ⟨x, 0, none⟩)] W fun e w' => e = .returned (.int .i64 (cntM ev l.length)) ∧ Below W.heap.size W w') := Lib.hid fun W hB => brestarts_any (HBr.out.below hB) hv1 hv2 (by omega)
            clear hln hev
            generalize hwL : wr = wL at *
            clear hwL
            go_wp2_with fail; (with_reducible refine (Hln.out).mono ?_); rintro e w10 ⟨rfl, rfl⟩
            go_wp2_with fail; (with_reducible refine (Hev.out).mono ?_); rintro e w10 ⟨rfl, rfl⟩
            go_wp2
            go_loopw [10, 104] (fun v i wr => ∃ k : Nat, k ≤ l.length ∧ i = .int .i64 k ∧ v = .int .i64 (cntM ev k) ∧ Below wL.heap.size wL wr) (fun _ i _ => l.length - (intOf i).toNat)
            case atStart => exact ⟨0, Nat.zero_le _, rfl, rfl, Below.refl _ _⟩
            case round =>
              clear hk hlt
              obtain ⟨k, hk, rfl, rfl, hb⟩ := hrel
              have hcle := cntM_le ev k
              by_cases hlt : k < l.length
              · obtain ⟨b, off, hab, f0, f1⟩ := HPl.out.cells hb k hlt
                subst hab
                rw [← pAt_get hlt] at f0 f1
                have hat := fun W hB => HatQ.out W k hB hlt
                have Hat := Lib.hid hat
                have Hcs : Hid (cntM ev (k + 1) = cntM ev k + if k % ev = 0 then 1 else 0) := Lib.hid rfl
                clear hat
                generalize pAt l k = y at *
                go_upto_region 22 with fail
                refine gen_wp (fun w' => w'.cell? ⟨wr.heap.size, 0, none⟩ = some (.string y.key) ∧ w'.cell? ⟨wr.heap.size, 1, none⟩ = some (.string y.val) ∧ Below wL.heap.size wL w') ?_ ?_
                · exact ⟨(cell_two (heap_alloc_new wr _)).1, (cell_two (heap_alloc_new wr _)).2.1, hb.alloc hb.size _⟩
                rintro w11 ⟨q0, q1, hb11⟩
                generalize wr.heap.size = q at *
                have s0 := cell_next q0
                have s1 := cell_next q1
                have Bq := bnext_grow (Below.refl w11.heap.size w11)
                have hne := nePa y y
                rw [paeq_self] at hne
                clear f0 f1
                go_upto_region 22 with fail
                refine wp_region_quiet_below (by kernel_rfl) (by kernel_rfl) ?_; (repeat (go_big_quiet_step ((go_at_call 19; (with_reducible refine Calls.regrown_of (Hat.out _ (bnext hb11 (Bq _ _)))))))); refine wpQuiet_nil ?_; rintro _ ⟨pq, rfl⟩
                have B12 := bnext hb11 (Bq pq.d pq.os)
                generalize Go.Sort.grow (redrawn w11 pq.d) pq.os = w12 at *
                clear s0 s1 Bq hne q0 q1 hb11
                obtain ⟨tb, htb⟩ : ∃ tb : Bool, ((k : Int) % (ev : Int) == 0) = tb := ⟨_, rfl⟩
                cases tb with
                | true =>
                  have Hcn : Hid (cntM ev (k + 1) = cntM ev k + 1) := Lib.hid (by rw [Hcs.out, if_pos (by rw [beq_iff_eq] at htb; omega)])
                  generalize cntM ev k = z at *
                  go_wp2
                  go_roundw
                  case rel => exact ⟨k + 1, by omega, by go_num, by have := Hcn.out; go_num, B12⟩
                  case measure => simp [intOf]; omega
                | false =>
                  have Hcn : Hid (cntM ev (k + 1) = cntM ev k) := Lib.hid (by rw [Hcs.out, if_neg (by rw [beq_eq_false_iff_ne] at htb; omega)]; rfl)
                  go_wp2
                  go_roundw
                  case rel => exact ⟨k + 1, by omega, by go_num, by rw [Hcn.out], B12⟩
                  case measure => simp [intOf]; omega
              · obtain rfl : k = l.length := by omega
                have heq := eqPa ⟨⟨#[]⟩, ⟨#[]⟩⟩ ⟨⟨#[]⟩, ⟨#[]⟩⟩
                rw [paeq_self] at heq
                dsimp only at heq
                go_wp2_with fail; (with_reducible refine (Hrs.out _ hb).mono ?_); rintro e w11 ⟨rfl, hb11⟩
                have B11 := bnext hb hb11
                have hat1 := HatO.out _ (-1) B11 (.inl (by decide))
                have Hat1 := Lib.hid hat1
                clear hat1
                go_wp2_with fail; (with_reducible refine (Hat1.out).mono ?_); rintro e w12 ⟨rfl, hb12⟩
                have B12 := bnext B11 hb12
                have hat2 := HatO.out _ (l.length : Int) B12 (.inr (Int.le_refl _))
                have Hat2 := Lib.hid hat2
                clear hat2
                go_wp2_with fail; (with_reducible refine (Hat2.out).mono ?_); rintro e w13 ⟨rfl, hb13⟩
                have B13 := bnext B12 hb13
                go_wp2_with fail; (with_reducible refine (awake12 _).mono ?_); rintro e w14 ⟨rfl, hb14⟩
                go_wp2
                go_ret
                exact ⟨rfl, bnext hbr (bnext B13 hb14)⟩
end Go.Proofs.Ytebnllpcagkkbaa
