/- BlockSame: its walk. -/
import Derived.Test.YtebnllpcagkkbaaBrfd
namespace Go.Proofs.Ytebnllpcagkkbaa
open Go.RowKit
set_option linter.unusedVariables false
set_option linter.unusedSimpArgs false

set_option maxRecDepth 100000 in
set_option maxHeartbeats 8000000 in
theorem bsame12_yes {w : World} {a : Option Addr} {c : Nat} {l : List PairD} (h : PRs w a l) (hl : l.length ≤ maxLen) (ea eb : Int) :
    Calls Try.prog 8 #[.slice a l.length c, .int .i64 ea, .int .i64 eb] w fun e w' => e = .returned (.bool true) ∧ Below w.heap.size w w' := by
  have H := Lib.hid h
  cases hs : small12 l with
  | false =>
    have H1 := Lib.hid (small12_any (c := c) h hl false hs)
    clear h hs
    go_enter Try.func8, Try.ntmps8
    go_wp2_with fail; (with_reducible refine (H1.out).mono ?_); rintro e w1 ⟨rfl, hb1⟩
    go_wp2_with fail; (with_reducible refine (awake12 _).mono ?_); rintro e w2 ⟨rfl, hb2⟩
    go_wp2
    go_ret
    exact ⟨rfl, bnext hb1 hb2⟩
  | true =>
    obtain ⟨hsz, hl80⟩ := small12_yes hs
    have Hsz := Lib.hid hsz
    have H1 := Lib.hid (small12_any (c := c) h hl true hs)
    have Hml := Lib.hid hl
    clear h hs hsz hl
    have hbody : Hid (∀ e, (bodyB e l l.length).length < 4294967296) := Lib.hid fun e => by have := bodyB_small Hsz.out e l.length (Nat.le_refl _); omega
    have Hs6 : Hid (∀ x ∈ l, x.key.size ≤ 1000000 ∧ x.val.size ≤ 1000000) := Lib.hid fun x hx => by have := Hsz.out x hx; omega
    have Href : Hid (∀ W, Below w.heap.size w W → Calls Try.prog 14 #[.slice a l.length c] W fun e w' => ∃ a' c', e = .returned (.slice a' l.length c') ∧ PRs w' a' l ∧ Below W.heap.size W w') := Lib.hid fun W hb => ref12_any (H.out.below hb) (by omega)
    have Hor : Hid (∀ W a' c' z, PRs W a' l → risesB l = z → Calls Try.prog 13 #[.slice a' l.length c'] W fun e w' => e = .returned (.bool z) ∧ Below W.heap.size W w') := Lib.hid fun W a' c' z hp hz => rises_any hp Hml.out z hz
    cases hr : risesB l with
    | false =>
      have Hr := Lib.hid hr
      clear hr
      go_enter Try.func8, Try.ntmps8
      go_wp2_with fail; (with_reducible refine (H1.out).mono ?_); rintro e w1 ⟨rfl, hb1⟩
      go_wp2_with fail; (with_reducible refine (Href.out _ hb1).mono ?_); rintro e w3 ⟨a3, c3, rfl, hp3, hb3⟩
      have HP3 := Lib.hid hp3
      clear hp3
      go_wp2_with fail; (with_reducible refine (Hor.out _ _ _ false HP3.out Hr.out).mono ?_); rintro e w4 ⟨rfl, hb4⟩
      go_wp2_with fail; (with_reducible refine (awake12 _).mono ?_); rintro e w5 ⟨rfl, hb5⟩
      go_wp2
      go_ret
      exact ⟨rfl, bnext (bnext (bnext hb1 hb3) hb4) hb5⟩
    | true =>
      have Hr := Lib.hid hr
      by_cases hev : 1 ≤ ea ∧ ea ≤ 64 ∧ 1 ≤ eb ∧ eb ≤ 64
      case neg =>
        clear hr
        have hev2 : ea < 1 ∨ (1 ≤ ea ∧ 64 < ea) ∨ (1 ≤ ea ∧ ea ≤ 64 ∧ eb < 1) ∨ (1 ≤ ea ∧ ea ≤ 64 ∧ 1 ≤ eb ∧ 64 < eb) := by omega
        clear hev
        rcases hev2 with h1 | ⟨h1, h2⟩ | ⟨h1, h2, h3⟩ | ⟨h1, h2, h3, h4⟩
        all_goals
          go_enter Try.func8, Try.ntmps8
          go_wp2_with fail; (with_reducible refine (H1.out).mono ?_); rintro e w1 ⟨rfl, hb1⟩
          go_wp2_with fail; (with_reducible refine (Href.out _ hb1).mono ?_); rintro e w3 ⟨a3, c3, rfl, hp3, hb3⟩
          have HP3 := Lib.hid hp3
          clear hp3
          go_wp2_with fail; (with_reducible refine (Hor.out _ _ _ true HP3.out Hr.out).mono ?_); rintro e w4 ⟨rfl, hb4⟩
          go_wp2_with fail; (with_reducible refine (awake12 _).mono ?_); rintro e w5 ⟨rfl, hb5⟩
          go_wp2
          go_ret
          exact ⟨rfl, bnext (bnext (bnext hb1 hb3) hb4) hb5⟩
      case pos =>
        obtain ⟨he1, he2, he3, he4⟩ := hev
        obtain ⟨va, rfl⟩ := Int.eq_ofNat_of_zero_le (show 0 ≤ ea by omega)
        obtain ⟨vb, rfl⟩ := Int.eq_ofNat_of_zero_le (show 0 ≤ eb by omega)
        have ha1 : 1 ≤ va := by omega
        have ha2 : va ≤ 64 := by omega
        have hb1' : 1 ≤ vb := by omega
        have hb2' : vb ≤ 64 := by omega
        have Hbd : Hid (∀ W ev, 1 ≤ ev → ev ≤ 64 → Below w.heap.size w W → Calls Try.prog 15 #[.slice a l.length c, .int .i64 (ev : Nat)] W fun e w' => ∃ g, e = .returned (.tuple #[.slice (some ⟨g, 0, none⟩) (buildB ev l).length (buildB ev l).length, .int .i64 0]) ∧ OB w' W.heap.size (.slice (some ⟨g, 0, none⟩) (buildB ev l).length (buildB ev l).length) (buildB ev l) ∧ Below W.heap.size W w') := Lib.hid fun W ev hv1 hv2 hb =>
          build_yes (H.out.below hb) ev hv1 hv2 (by omega) Hs6.out (hbody.out ev) ((risesB_iff l).1 Hr.out)
        have hoa := open_back va l ha1 ha2 (by omega) Hs6.out hr
        have hob := open_back vb l hb1' hb2' (by omega) Hs6.out hr
        have hub : ∀ ev, (buildB ev l).length ≤ 60000 := fun ev => by
          have h1 := bodyB_small Hsz.out ev l.length (Nat.le_refl _)
          have h2 := starts_le ev l l.length
          rw [build_len]; omega
        have hsame : (buildB va l == buildB vb l) = ((va : Int) == (vb : Int)) := by
          by_cases e : va = vb
          · subst e; simp
          · have h1 : ¬ buildB va l = buildB vb l := fun h => e (by rw [← hoa.2, h, hob.2])
            rw [beq_eq_false_iff_ne.2 h1, beq_eq_false_iff_ne.2 (by omega)]
        have hua := hub va
        have hubb := hub vb
        have Hoa := Lib.hid hoa
        have Hobb := Lib.hid hob
        have Hsame := Lib.hid hsame
        have Hba := Lib.hid fun W hb => Hbd.out W va ha1 ha2 hb
        have Hbb := Lib.hid fun W hb => Hbd.out W vb hb1' hb2' hb
        clear hr hoa hob hub hsame Hbd
        generalize hbba : buildB va l = ba at *
        generalize hbbb : buildB vb l = bb at *
        clear hbba hbbb
        go_enter Try.func8, Try.ntmps8
        go_wp2_with fail; (with_reducible refine (H1.out).mono ?_); rintro e w1 ⟨rfl, hb1⟩
        go_wp2_with fail; (with_reducible refine (Href.out _ hb1).mono ?_); rintro e w3 ⟨a3, c3, rfl, hp3, hb3⟩
        have HP3 := Lib.hid hp3
        have B3 := bnext hb1 hb3
        clear hp3
        go_wp2_with fail; (with_reducible refine (Hor.out _ _ _ true HP3.out Hr.out).mono ?_); rintro e w4 ⟨rfl, hb4⟩
        have B4 := bnext B3 hb4
        go_wp2_with fail; (with_reducible refine (Hba.out _ B4).mono ?_); rintro e w5 ⟨g5, rfl, ho5, hb5⟩
        have HO5 := Lib.hid ho5
        have B5 := bnext B4 hb5
        clear ho5
        go_wp2_with fail; (with_reducible refine (Hbb.out _ B5).mono ?_); rintro e w6 ⟨g6, rfl, ho6, hb6⟩
        have HO6 := Lib.hid ho6
        have B6 := bnext B5 hb6
        have HA6 := Lib.hid (HO5.out.past hb6 (Nat.le_refl _))
        have hop := open_any HA6.out.reads hua HA6.out.capm
        have Hop := Lib.hid hop
        clear hop ho6 hb3 hb4 hb5 HP3 HO5
        go_wp2_with fail; (with_reducible refine (Hop.out).mono ?_); rintro e w7 hout
        obtain ⟨hb7, hout⟩ := hout
        rw [Hoa.out.1] at hout
        obtain ⟨x, a7, c7, rfl, hx7, _, hp7, hc71, hc72⟩ := hout
        rw [Hoa.out.2] at hx7
        have B7 := bnext B6 hb7
        have HX7 := Lib.hid (show BK w7 x a7 c7 l va from ⟨hx7, hp7⟩)
        have HA7 := Lib.hid (HA6.out.past hb7 (Nat.le_refl _))
        have HB7 := Lib.hid (HO6.out.past hb7 (Nat.le_refl _))
        have hop := open_any HB7.out.reads hubb HB7.out.capm
        have Hop2 := Lib.hid hop
        clear hop hx7 hp7 HA6 HO6 Hop hb6
        go_wp2_with fail; (with_reducible refine (Hop2.out).mono ?_); rintro e w8 hout
        obtain ⟨hb8, hout⟩ := hout
        rw [Hobb.out.1] at hout
        obtain ⟨y, a8, c8, rfl, hx8, _, hp8, hc81, hc82⟩ := hout
        rw [Hobb.out.2] at hx8
        have B8 := bnext B7 hb8
        have HX8 := Lib.hid (HX7.out.below hb8)
        have HY8 := Lib.hid (show BK w8 y a8 c8 l vb from ⟨hx8, hp8⟩)
        have HA8 := Lib.hid (HA7.out.past hb8 (Nat.le_refl _)).reads
        have HB8 := Lib.hid (HB7.out.past hb8 (Nat.le_refl _)).reads
        have HFx : Hid (∀ W k, Below w8.heap.size w8 W → k < l.length → Calls Try.prog 24 #[.pointer (some ⟨x, 0, none⟩), .string (pAt l k).key] W fun e w' => e = .returned (.int .i64 (k : Nat)) ∧ Below W.heap.size W w') := Lib.hid fun W k hB hk =>
          (bfind_any (HX8.out.below hB) ha1 ha2 (by omega) hc71 hc72 Hr.out (pAt l k).key).mono fun e w' ⟨j, h1, h2, h3⟩ => ⟨by rw [h1, firstGe_unique h2 (firstGe_self Hr.out hk)], h3⟩
        have HFy : Hid (∀ W k, Below w8.heap.size w8 W → k < l.length → Calls Try.prog 24 #[.pointer (some ⟨y, 0, none⟩), .string (pAt l k).key] W fun e w' => e = .returned (.int .i64 (k : Nat)) ∧ Below W.heap.size W w') := Lib.hid fun W k hB hk =>
          (bfind_any (HY8.out.below hB) hb1' hb2' (by omega) hc81 hc82 Hr.out (pAt l k).key).mono fun e w' ⟨j, h1, h2, h3⟩ => ⟨by rw [h1, firstGe_unique h2 (firstGe_self Hr.out hk)], h3⟩
        have HAx : Hid (∀ W k, Below w8.heap.size w8 W → k < l.length → Calls Try.prog 19 #[.pointer (some ⟨x, 0, none⟩), .int .i64 (k : Nat)] W fun e w' => e = .returned (.agg #[.string (pAt l k).key, .string (pAt l k).val]) ∧ Below W.heap.size W w') := Lib.hid fun W k hB hk => bat_in (HX8.out.below hB) Hml.out k hk
        have HAy : Hid (∀ W k, Below w8.heap.size w8 W → k < l.length → Calls Try.prog 19 #[.pointer (some ⟨y, 0, none⟩), .int .i64 (k : Nat)] W fun e w' => e = .returned (.agg #[.string (pAt l k).key, .string (pAt l k).val]) ∧ Below W.heap.size W w') := Lib.hid fun W k hB hk => bat_in (HY8.out.below hB) Hml.out k hk
        have hlx := blen_any HX8.out
        have hly := blen_any HY8.out
        have Hlx := Lib.hid hlx
        have Hly := Lib.hid hly
        clear hx8 hp8 hc71 hc72 hc81 hc82 hlx hly HX7 HA7 HB7 Hop2 hb7 hb8
        go_wp2_with fail; (with_reducible refine (Hlx.out).mono ?_); rintro e w9 ⟨rfl, rfl⟩
        go_wp2_with fail; (with_reducible refine (Hly.out).mono ?_); rintro e w9 ⟨rfl, rfl⟩
        go_wp2
        go_loopw [96] (fun i wr => ∃ k : Nat, k ≤ l.length ∧ i = .int .i64 k ∧ Below w8.heap.size w8 wr) (fun i _ => l.length - (intOf i).toNat)
        case atStart => exact ⟨0, Nat.zero_le _, rfl, Below.refl _ _⟩
        case round =>
          obtain ⟨k, hk, rfl, hb⟩ := hrel
          by_cases hlt : k < l.length
          · obtain ⟨b, off, rfl, f0, f1⟩ := H.out.cells (bnext B8 hb) k hlt
            rw [← pAt_get hlt] at f0 f1
            have hfx := fun W hB => HFx.out W k hB hlt
            have hfy := fun W hB => HFy.out W k hB hlt
            have hax := fun W hB => HAx.out W k hB hlt
            have hay := fun W hB => HAy.out W k hB hlt
            have Hfx := Lib.hid hfx
            have Hfy := Lib.hid hfy
            have Hax := Lib.hid hax
            have Hay := Lib.hid hay
            clear hfx hfy hax hay
            generalize pAt l k = z at *
            go_upto_region 12 with fail
            refine gen_wp (fun w' => w'.cell? ⟨wr.heap.size, 0, none⟩ = some (.string z.key) ∧ Below w8.heap.size w8 w') ?_ ?_
            · exact ⟨(cell_two (heap_alloc_new wr _)).1, hb.alloc hb.size _⟩
            rintro w11 ⟨q0, hb11⟩
            generalize wr.heap.size = q at *
            have s0 := cell_next q0
            have Bq := bnext_grow (Below.refl w11.heap.size w11)
            have hne := nePa z z
            rw [paeq_self] at hne
            clear f0 f1
            go_upto_region 12 with fail
            refine wp_region_quiet_below (by kernel_rfl) (by kernel_rfl) ?_; (repeat (go_big_quiet_step ((first
              | (go_at_call 19; (with_reducible refine Calls.regrown_of (Hax.out _ (bnext hb11 (Bq _ _)))))
              | (go_at_call 19; (with_reducible refine Calls.regrown_of (Hay.out _ (bnext hb11 (Bq _ _)))))
              | (go_at_call 24; (with_reducible refine Calls.regrown_of (Hfx.out _ (bnext hb11 (Bq _ _)))))
              | (go_at_call 24; (with_reducible refine Calls.regrown_of (Hfy.out _ (bnext hb11 (Bq _ _))))))))); refine wpQuiet_nil ?_; rintro _ ⟨pq, rfl⟩
            have B12 := bnext hb11 (Bq pq.d pq.os)
            generalize Go.Sort.grow (redrawn w11 pq.d) pq.os = w12 at *
            clear s0 Bq hne q0 hb11
            go_wp2
            go_roundw
            case rel => exact ⟨k + 1, by omega, by go_num, B12⟩
            case measure => simp [intOf]; omega
          · obtain rfl : k = l.length := by omega
            obtain ⟨z, hz⟩ : ∃ z : Bool, ((va : Int) == (vb : Int)) = z := ⟨_, rfl⟩
            have hsm := same_b (HA8.out.below hb) (HB8.out.below hb) z (by rw [Hsame.out]; exact hz)
            have Hsm := Lib.hid hsm
            clear hsm
            go_wp2_with fail; (with_reducible refine (Hsm.out).mono ?_); rintro e w13 ⟨rfl, hb13⟩
            cases z with
            | true =>
              go_wp2_with fail; (with_reducible refine (awake12 _).mono ?_); rintro e w14 ⟨rfl, hb14⟩
              go_wp2
              go_ret
              exact ⟨rfl, bnext B8 (bnext (bnext hb hb13) hb14)⟩
            | false =>
              go_wp2_with fail; (with_reducible refine (awake12 _).mono ?_); rintro e w14 ⟨rfl, hb14⟩
              go_wp2
              go_ret
              exact ⟨rfl, bnext B8 (bnext (bnext hb hb13) hb14)⟩
end Go.Proofs.Ytebnllpcagkkbaa
