/- BlockFinds: its walk. -/
import Derived.Test.YtebnllpcagkkbaaBrfd
namespace Go.Proofs.Ytebnllpcagkkbaa
open Go.RowKit
set_option linter.unusedVariables false
set_option linter.unusedSimpArgs false

set_option maxRecDepth 100000 in
set_option maxHeartbeats 8000000 in
theorem bfinds12_yes {w : World} {a a' : Option Addr} {c c' : Nat} {l : List PairD} {ks : List ByteArray} (h : PRs w a l) (hl : l.length ≤ maxLen) (every : Int) (hs : SRs w a' ks) (hks : ks.length ≤ maxLen) :
    Calls Try.prog 7 #[.slice a l.length c, .int .i64 every, .slice a' ks.length c'] w fun e w' => e = .returned (.bool true) ∧ Below w.heap.size w w' := by
  have H := Lib.hid h
  have HSs := Lib.hid hs
  have hksI := hks
  unfold maxLen at hksI
  cases hs : small12 l with
  | false =>
    have H1 := Lib.hid (small12_any (c := c) h hl false hs)
    clear h hs
    go_enter Try.func7, Try.ntmps7
    go_wp2_with fail; (with_reducible refine (H1.out).mono ?_); rintro e w1 ⟨rfl, hb1⟩
    go_wp2_with fail; (with_reducible refine (awake12 _).mono ?_); rintro e w2 ⟨rfl, hb2⟩
    go_wp2
    go_ret
    exact ⟨rfl, bnext hb1 hb2⟩
  | true =>
    obtain ⟨hsz, hl80⟩ := small12_yes hs
    have Hsz := Lib.hid hsz
    have H1 := Lib.hid (small12_any (c := c) h hl true hs)
    have Hml := Lib.hid hl
    clear h hs hsz hl hks
    by_cases hev : ks.length ≤ 40 ∧ 1 ≤ every ∧ every ≤ 64
    case neg =>
      have hev2 : 40 < ks.length ∨ (ks.length ≤ 40 ∧ every < 1) ∨ (ks.length ≤ 40 ∧ 1 ≤ every ∧ 64 < every) := by omega
      clear hev
      rcases hev2 with h1 | ⟨h1, h2⟩ | ⟨h1, h2, h3⟩
      all_goals
        go_enter Try.func7, Try.ntmps7
        go_wp2_with fail; (with_reducible refine (H1.out).mono ?_); rintro e w1 ⟨rfl, hb1⟩
        go_wp2_with fail; (with_reducible refine (awake12 _).mono ?_); rintro e w3 ⟨rfl, hb3⟩
        go_wp2
        go_ret
        exact ⟨rfl, bnext hb1 hb3⟩
    case pos =>
      obtain ⟨h40, he1, he2⟩ := hev
      obtain ⟨ev, rfl⟩ := Int.eq_ofNat_of_zero_le (show 0 ≤ every by omega)
      have hv1 : 1 ≤ ev := by omega
      have hv2 : ev ≤ 64 := by omega
      have hbody : Hid (∀ e, (bodyB e l l.length).length < 4294967296) := Lib.hid fun e => by have := bodyB_small Hsz.out e l.length (Nat.le_refl _); omega
      have Hs6 : Hid (∀ x ∈ l, x.key.size ≤ 1000000 ∧ x.val.size ≤ 1000000) := Lib.hid fun x hx => by have := Hsz.out x hx; omega
      have Href : Hid (∀ W, Below w.heap.size w W → Calls Try.prog 14 #[.slice a l.length c] W fun e w' => ∃ a' c', e = .returned (.slice a' l.length c') ∧ PRs w' a' l ∧ Below W.heap.size W w') := Lib.hid fun W hb => ref12_any (H.out.below hb) (by omega)
      have Hor : Hid (∀ W a' c' z, PRs W a' l → risesB l = z → Calls Try.prog 13 #[.slice a' l.length c'] W fun e w' => e = .returned (.bool z) ∧ Below W.heap.size W w') := Lib.hid fun W a' c' z hp hz => rises_any hp Hml.out z hz
      cases hr : risesB l with
      | false =>
        have Hr := Lib.hid hr
        clear hr
        go_enter Try.func7, Try.ntmps7
        go_wp2_with fail; (with_reducible refine (H1.out).mono ?_); rintro e w1 ⟨rfl, hb1⟩
        go_wp2_with fail; (with_reducible refine (Href.out _ hb1).mono ?_); rintro e w3 ⟨a3, c3, rfl, hp3, hb3⟩
        have HP3 := Lib.hid hp3
        clear hp3
        go_wp2_with fail; (with_reducible refine (Hor.out _ _ _ false HP3.out Hr.out).mono ?_); rintro e w4 ⟨rfl, hb4⟩
        go_wp2_with fail; (with_reducible refine (awake12 _).mono ?_); rintro e w5 ⟨rfl, hb5⟩
        go_wp2
        go_ret
        exact ⟨rfl, bnext (bnext (bnext hb1 hb3) hb4) hb5⟩
      | true =>
        have Hr := Lib.hid hr
        have Hbd : Hid (∀ W, Below w.heap.size w W → Calls Try.prog 15 #[.slice a l.length c, .int .i64 ev] W fun e w' => ∃ g, e = .returned (.tuple #[.slice (some ⟨g, 0, none⟩) (buildB ev l).length (buildB ev l).length, .int .i64 0]) ∧ OB w' W.heap.size (.slice (some ⟨g, 0, none⟩) (buildB ev l).length (buildB ev l).length) (buildB ev l) ∧ Below W.heap.size W w') := Lib.hid fun W hb =>
          build_yes (H.out.below hb) ev hv1 hv2 (by omega) Hs6.out (hbody.out ev) ((risesB_iff l).1 Hr.out)
        have hob := open_back ev l hv1 hv2 (by omega) Hs6.out hr
        have Hob := Lib.hid hob
        have hub : (buildB ev l).length ≤ 60000 := by
          have h1 := bodyB_small Hsz.out ev l.length (Nat.le_refl _)
          have h2 := starts_le ev l l.length
          rw [build_len]; omega
        clear hr hob
        generalize hbb : buildB ev l = bb at *
        clear hbb
        go_enter Try.func7, Try.ntmps7
        go_wp2_with fail; (with_reducible refine (H1.out).mono ?_); rintro e w1 ⟨rfl, hb1⟩
        go_wp2_with fail; (with_reducible refine (Href.out _ hb1).mono ?_); rintro e w3 ⟨a3, c3, rfl, hp3, hb3⟩
        have HP3 := Lib.hid hp3
        have B3 := bnext hb1 hb3
        clear hp3
        go_wp2_with fail; (with_reducible refine (Hor.out _ _ _ true HP3.out Hr.out).mono ?_); rintro e w4 ⟨rfl, hb4⟩
        have B4 := bnext B3 hb4
        go_wp2_with fail; (with_reducible refine (Hbd.out _ B4).mono ?_); rintro e w5 ⟨g, rfl, ho5, hb5⟩
        have B5 := bnext B4 hb5
        have hop := open_any ho5.reads hub ho5.capm
        have Hop := Lib.hid hop
        clear hop ho5 hb3 hb4 hb5 HP3
        go_wp2_with fail; (with_reducible refine (Hop.out).mono ?_); rintro e w8 hout
        obtain ⟨hb8, hout⟩ := hout
        rw [Hob.out.1] at hout
        obtain ⟨x, a8, c8, rfl, hx8, _, hp8, hc81, hc82⟩ := hout
        rw [Hob.out.2] at hx8
        have B8 := bnext B5 hb8
        have HF : Hid (∀ W key, Below w8.heap.size w8 W → Calls Try.prog 24 #[.pointer (some ⟨x, 0, none⟩), .string key] W fun e w' => ∃ j : Nat, e = .returned (.int .i64 j) ∧ FirstGe l key j ∧ Below W.heap.size W w') := Lib.hid fun W key hB =>
          bfind_any ((show BK w8 x a8 c8 l ev from ⟨hx8, hp8⟩).below hB) hv1 hv2 (by omega) hc81 hc82 Hr.out key
        clear hx8 hp8 hc81 hc82 hb8 Hop
        go_wp2
        go_loopw [57] (fun i wr => ∃ k : Nat, k ≤ ks.length ∧ i = .int .i64 k ∧ Below w8.heap.size w8 wr) (fun i _ => ks.length - (intOf i).toNat)
        case atStart => exact ⟨0, Nat.zero_le _, rfl, Below.refl _ _⟩
        case round =>
          obtain ⟨k, hk, rfl, hb⟩ := hrel
          by_cases hlt : k < ks.length
          · obtain ⟨b, off, rfl, f0, hsk⟩ := HSs.out.cell (bnext B8 hb) k hlt
            have Hsk := Lib.hid hsk
            unfold maxLen at hsk
            generalize ks[k] = u at *
            by_cases h300 : u.size ≤ 300
            · have Hrf : Hid (∀ W a' c', PRs W a' l → Calls Try.prog 25 #[.slice a' l.length c', .string u] W fun e w' => ∃ j : Nat, e = .returned (.int .i64 j) ∧ FirstGe l u j ∧ Below W.heap.size W w') := Lib.hid fun W a' c' hp => reffind_any hp Hml.out u Hsk.out
              go_wp2_with fail; (with_reducible refine (HF.out _ u hb).mono ?_); rintro e w10 ⟨j, rfl, hj, hb10⟩
              have B10 := bnext hb hb10
              have Hj := Lib.hid hj
              clear hj
              go_wp2_with fail; (with_reducible refine (Href.out _ (bnext B8 B10)).mono ?_); rintro e w11 ⟨a11, c11, rfl, hp11, hb11⟩
              have HP11 := Lib.hid hp11
              have B11 := bnext B10 hb11
              clear hp11
              go_wp2_with fail; (with_reducible refine (Hrf.out _ _ _ HP11.out).mono ?_); rintro e w12 ⟨j2, rfl, hj2, hb12⟩
              obtain rfl := firstGe_unique Hj.out hj2
              have B12 := bnext B11 hb12
              clear hj2 hb10 hb11 hb12
              go_wp2
              go_roundw
              case rel => exact ⟨k + 1, by omega, by go_num, B12⟩
              case measure => simp [intOf]; omega
            · have h300' : 300 < u.size := by omega
              go_wp2
              go_roundw
              case rel => exact ⟨k + 1, by omega, by go_num, hb⟩
              case measure => simp [intOf]; omega
          · obtain rfl : k = ks.length := by omega
            go_wp2
            go_loopw [77] (fun i wr => ∃ k : Nat, k ≤ l.length ∧ i = .int .i64 k ∧ Below w8.heap.size w8 wr) (fun i _ => l.length - (intOf i).toNat)
            case atStart => exact ⟨0, Nat.zero_le _, rfl, hb⟩
            case round =>
              clear hb hk hlt
              obtain ⟨k, hk, rfl, hb⟩ := hrel
              by_cases hlt : k < l.length
              · obtain ⟨b, off, rfl, f0, f1⟩ := H.out.cells (bnext B8 hb) k hlt
                have hz := (Hsz.out _ (List.getElem_mem hlt)).1
                have hg1 := firstGe_self Hr.out hlt
                have hg2 := firstGe_next Hr.out hlt
                rw [← pAt_get hlt] at f0 f1 hz
                have Hg1 := Lib.hid hg1
                have Hg2 := Lib.hid hg2
                clear hg1 hg2
                generalize pAt l k = y at *
                have hsum : ¬ (9223372036854775807 < y.key.size + 1) := by omega
                go_upto_region 16 with fail
                refine gen_wp (fun w' => w'.cell? ⟨wr.heap.size, 0, none⟩ = some (.string y.key) ∧ Below w8.heap.size w8 w') ?_ ?_
                · exact ⟨(cell_two (heap_alloc_new wr _)).1, hb.alloc hb.size _⟩
                rintro w11 ⟨q0, hb11⟩
                generalize wr.heap.size = q at *
                have s0 := cell_next q0
                clear f0 f1
                go_wp2_with fail; (with_reducible refine (HF.out _ y.key hb11).mono ?_); rintro e w12 ⟨j, rfl, hj, hb12⟩
                obtain rfl := firstGe_unique hj Hg1.out
                have B12 := bnext hb11 hb12
                have q2 := s0 _ hb12
                clear hj q0
                go_wp2_with fail; (with_reducible refine (HF.out _ (y.key ++ ⟨#[0]⟩) B12).mono ?_); rintro e w13 ⟨j2, rfl, hj2, hb13⟩
                obtain rfl := firstGe_unique hj2 Hg2.out
                have B13 := bnext B12 hb13
                clear hj2 hb12 hb13 hb11
                go_wp2
                go_roundw
                case rel => exact ⟨j + 1, by omega, by go_num, B13⟩
                case measure => simp [intOf]; omega
              · obtain rfl : k = l.length := by omega
                go_wp2_with fail; (with_reducible refine (awake12 _).mono ?_); rintro e w14 ⟨rfl, hb14⟩
                go_wp2
                go_ret
                exact ⟨rfl, bnext B8 (bnext hb hb14)⟩
end Go.Proofs.Ytebnllpcagkkbaa
