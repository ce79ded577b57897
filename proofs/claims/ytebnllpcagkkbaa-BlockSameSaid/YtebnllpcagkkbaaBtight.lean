/- BlockTight: plain law and walk. -/
import Derived.Test.YtebnllpcagkkbaaAw12
import Derived.Test.YtebnllpcagkkbaaBs12
namespace Go.Proofs.Ytebnllpcagkkbaa
open Go.RowKit
set_option linter.unusedVariables false
set_option linter.unusedSimpArgs false

theorem num_300 {m : Nat} (h : m ≤ 300) : (num m).length = if m ≤ 127 then 1 else 2 := by
  by_cases h1 : m ≤ 127
  · rw [num_small h1, if_pos h1]; rfl
  · rw [num_big (by omega), num_small (by omega), if_neg h1]; rfl
theorem pairB_300 {n : Nat} {x : PairD} (hx : x.key.size ≤ 300 ∧ x.val.size ≤ 300) (hn : n ≤ x.key.size) :
    3 + x.key.size - n + x.val.size ≤ (pairB n x).length ∧ (pairB n x).length ≤ (pairB 0 x).length ∧ (pairB n x).length ≤ 700 := by
  rw [pairB_len n x hn, pairB_len 0 x (Nat.zero_le _), num_300 (show n ≤ 300 by omega), num_300 (show x.key.size - n ≤ 300 by omega), num_300 hx.2, num_300 (show 0 ≤ 300 by omega), num_300 (show x.key.size - 0 ≤ 300 by omega)]
  have h0 : n = 0 ∨ 0 < n := Nat.eq_zero_or_pos n
  refine ⟨?_, ?_, ?_⟩
  · repeat' split
    all_goals omega
  · repeat' split
    all_goals omega
  · repeat' split
    all_goals omega
theorem pAt_300 {l : List PairD} (h : ∀ x ∈ l, x.key.size ≤ 300 ∧ x.val.size ≤ 300) {k : Nat} (hk : k < l.length) : (pAt l k).key.size ≤ 300 ∧ (pAt l k).val.size ≤ 300 := by
  rw [pAt_get hk]; exact h _ (List.getElem_mem hk)
theorem bodyB_small {l : List PairD} (h : ∀ x ∈ l, x.key.size ≤ 300 ∧ x.val.size ≤ 300) (every : Nat) : ∀ k, k ≤ l.length → (bodyB every l k).length ≤ k * 700
  | 0, _ => Nat.zero_le _
  | k + 1, hk => by
    have ih := bodyB_small h every k (by omega)
    have h1 := (pairB_300 (pAt_300 h (show k < l.length by omega)) (shN_le every l k)).2.2
    rw [bodyB_succ, List.length_append]
    omega
def wh (l : List PairD) : Nat → Nat
  | 0 => 0
  | k + 1 => wh l k + ((pAt l k).key.size + (pAt l k).val.size)
theorem wh_le {l : List PairD} (h : ∀ x ∈ l, x.key.size ≤ 300 ∧ x.val.size ≤ 300) : ∀ k, k ≤ l.length → wh l k ≤ 600 * k
  | 0, _ => Nat.le_refl _
  | k + 1, hk => by
    have ih := wh_le h k (by omega)
    have h1 := pAt_300 h (show k < l.length by omega)
    unfold wh
    omega
theorem shN_one (l : List PairD) (i : Nat) : shN 1 l i = 0 := by unfold shN; rw [if_pos (Nat.mod_one i)]
theorem starts_one (l : List PairD) : ∀ k, (starts 1 l k).length = k
  | 0 => rfl
  | k + 1 => by rw [starts_yes (Nat.mod_one k), List.length_append, starts_one l k]; rfl
theorem body_one {l : List PairD} (h : ∀ x ∈ l, x.key.size ≤ 300 ∧ x.val.size ≤ 300) : ∀ k, k ≤ l.length → wh l k + 3 * k ≤ (bodyB 1 l k).length ∧ (bodyB 64 l k).length ≤ (bodyB 1 l k).length
  | 0, _ => ⟨Nat.le_refl _, Nat.le_refl _⟩
  | k + 1, hk => by
    obtain ⟨i1, i2⟩ := body_one h k (by omega)
    have h1 := pairB_300 (n := 0) (pAt_300 h (show k < l.length by omega)) (Nat.zero_le _)
    have h2 := pairB_300 (pAt_300 h (show k < l.length by omega)) (shN_le 64 l k)
    rw [bodyB_succ, bodyB_succ, List.length_append, List.length_append, shN_one]
    unfold wh
    omega
theorem build_len (every : Nat) (l : List PairD) : (buildB every l).length = (bodyB every l l.length).length + 4 * ((starts every l l.length).length + 1) + 1 := by
  unfold buildB tailB
  rw [List.length_append, List.length_append, word4_len, List.length_append]; rfl
theorem tight_plain {l : List PairD} (h : ∀ x ∈ l, x.key.size ≤ 300 ∧ x.val.size ≤ 300) : (buildB 64 l).length ≤ (buildB 1 l).length ∧ wh l l.length + 7 * l.length + 5 ≤ (buildB 1 l).length := by
  obtain ⟨h1, h2⟩ := body_one h l.length (Nat.le_refl _)
  have h3 := starts_le 64 l l.length
  rw [build_len, build_len, starts_one]
  omega

set_option maxRecDepth 100000 in
set_option maxHeartbeats 4000000 in
theorem btight_yes {w : World} {a : Option Addr} {c : Nat} {l : List PairD} (h : PRs w a l) (hl : l.length ≤ maxLen) :
    Calls Try.prog 4 #[.slice a l.length c] w fun e w' => e = .returned (.bool true) ∧ Below w.heap.size w w' := by
  have H := Lib.hid h
  cases hs : small12 l with
  | false =>
    have h1 := fun W hb => small12_any (w := W) (c := c) (H.out.below hb) hl false hs
    have H1 := Lib.hid (h1 _ (Below.refl _ w))
    clear h h1 hs
    go_enter Try.func4, Try.ntmps4
    go_wp2_with fail; (with_reducible refine (H1.out).mono ?_); rintro e w1 ⟨rfl, hb1⟩
    go_wp2_with fail; (with_reducible refine (awake12 _).mono ?_); rintro e w2 ⟨rfl, hb2⟩
    go_wp2
    go_ret
    exact ⟨rfl, bnext hb1 hb2⟩
  | true =>
    obtain ⟨hsz, hl80⟩ := small12_yes hs
    have Hsz := Lib.hid hsz
    have H1 := Lib.hid (small12_any (c := c) h hl true hs)
    have Href : Hid (∀ W, Below w.heap.size w W → Calls Try.prog 14 #[.slice a l.length c] W fun e w' => ∃ a' c', e = .returned (.slice a' l.length c') ∧ PRs w' a' l ∧ Below W.heap.size W w') := Lib.hid fun W hb => ref12_any (H.out.below hb) (by omega)
    have Hor : Hid (∀ W a' c' z, PRs W a' l → risesB l = z → Calls Try.prog 13 #[.slice a' l.length c'] W fun e w' => e = .returned (.bool z) ∧ Below W.heap.size W w') := Lib.hid fun W a' c' z hp hz => rises_any hp hl z hz
    clear h hs hsz
    cases hr : risesB l with
    | false =>
      have Hr := Lib.hid hr
      clear hr
      go_enter Try.func4, Try.ntmps4
      go_wp2_with fail; (with_reducible refine (H1.out).mono ?_); rintro e w1 ⟨rfl, hb1⟩
      go_wp2_with fail; (with_reducible refine (Href.out _ hb1).mono ?_); rintro e w2 ⟨a2, c2, rfl, hp2, hb2⟩
      have HP2 := Lib.hid hp2
      clear hp2
      go_wp2_with fail; (with_reducible refine (Hor.out _ _ _ false HP2.out Hr.out).mono ?_); rintro e w3 ⟨rfl, hb3⟩
      go_wp2_with fail; (with_reducible refine (awake12 _).mono ?_); rintro e w4 ⟨rfl, hb4⟩
      go_wp2
      go_ret
      exact ⟨rfl, bnext (bnext (bnext hb1 hb2) hb3) hb4⟩
    | true =>
      have Hr := Lib.hid hr
      have hri := (risesB_iff l).1 hr
      have Hbd : Hid (∀ (W : World) (ev : Nat), Below w.heap.size w W → 1 ≤ ev → ev ≤ 64 → Calls Try.prog 15 #[.slice a l.length c, .int .i64 ev] W fun e w' => ∃ g, e = .returned (.tuple #[.slice (some ⟨g, 0, none⟩) (buildB ev l).length (buildB ev l).length, .int .i64 0]) ∧ OB w' W.heap.size (.slice (some ⟨g, 0, none⟩) (buildB ev l).length (buildB ev l).length) (buildB ev l) ∧ Below W.heap.size W w') :=
        Lib.hid fun W ev hb h1 h2 => build_yes (H.out.below hb) ev h1 h2 (by omega) (fun x hx => by have := Hsz.out x hx; omega) (by have := bodyB_small Hsz.out ev l.length (Nat.le_refl _); omega) hri
      have hpl := tight_plain Hsz.out
      have hub : (buildB 1 l).length ≤ 100000 := by
        have h1 := bodyB_small Hsz.out 1 l.length (Nat.le_refl _)
        rw [build_len, starts_one]; omega
      obtain ⟨hp1, hp2⟩ := hpl
      have Hb1 : Hid (∀ (W : World), Below w.heap.size w W → Calls Try.prog 15 #[.slice a l.length c, .int .i64 1] W fun e w' => ∃ g, e = .returned (.tuple #[.slice (some ⟨g, 0, none⟩) (buildB 1 l).length (buildB 1 l).length, .int .i64 0]) ∧ Below W.heap.size W w') := Lib.hid fun W hb => (Hbd.out W 1 hb (by decide) (by decide)).mono fun e w' ⟨g, h1, _, h2⟩ => ⟨g, h1, h2⟩
      have Hb2 : Hid (∀ (W : World), Below w.heap.size w W → Calls Try.prog 15 #[.slice a l.length c, .int .i64 64] W fun e w' => ∃ g, e = .returned (.tuple #[.slice (some ⟨g, 0, none⟩) (buildB 64 l).length (buildB 64 l).length, .int .i64 0]) ∧ Below W.heap.size W w') := Lib.hid fun W hb => (Hbd.out W 64 hb (by decide) (by decide)).mono fun e w' ⟨g, h1, _, h2⟩ => ⟨g, h1, h2⟩
      clear hr hri Hbd
      generalize (buildB 1 l).length = n1 at *
      generalize (buildB 64 l).length = n64 at *
      go_enter Try.func4, Try.ntmps4
      go_wp2_with fail; (with_reducible refine (H1.out).mono ?_); rintro e w1 ⟨rfl, hb1⟩
      go_wp2_with fail; (with_reducible refine (Href.out _ hb1).mono ?_); rintro e w2 ⟨a2, c2, rfl, hp2', hb2⟩
      have HP2 := Lib.hid hp2'
      clear hp2'
      go_wp2_with fail; (with_reducible refine (Hor.out _ _ _ true HP2.out Hr.out).mono ?_); rintro e w3 ⟨rfl, hb3⟩
      have B3 := bnext (bnext hb1 hb2) hb3
      go_wp2_with fail; (with_reducible refine (Hb1.out _ B3).mono ?_); rintro e w4 ⟨g4, rfl, hb4⟩
      have B4 := bnext B3 hb4
      go_wp2_with fail; (with_reducible refine (Hb2.out _ B4).mono ?_); rintro e w5 ⟨g5, rfl, hb5⟩
      have B5 := bnext B4 hb5
      clear HP2 hb1 hb2 hb3 hb4 hb5
      go_wp2
      go_loopw [7, 38] (fun v i wr => ∃ k : Nat, k ≤ l.length ∧ i = .int .i64 k ∧ v = .int .i64 (wh l k) ∧ Below w.heap.size w wr) (fun _ i _ => l.length - (intOf i).toNat)
      case atStart => exact ⟨0, Nat.zero_le _, rfl, rfl, B5⟩
      case round =>
        obtain ⟨k, hk, rfl, rfl, hb⟩ := hrel
        have hzs := hb.size
        have hwl := wh_le Hsz.out k hk
        by_cases hlt : k < l.length
        · obtain ⟨b, off, rfl, d0, d1⟩ := H.out.cells hb k hlt
          have hx := Hsz.out _ (List.getElem_mem hlt)
          have Hw : Hid (wh l (k + 1) = wh l k + ((l[k]).key.size + (l[k]).val.size)) := Lib.hid (by rw [← pAt_get hlt]; rfl)
          obtain ⟨hx1, hx2⟩ := hx
          generalize l[k] = x at *
          generalize wh l k = y at *
          go_wp2
          go_roundw
          case rel => exact ⟨k + 1, by omega, by go_num, by have := Hw.out; go_num, hb.alloc hzs _⟩
          case measure => simp [intOf]; omega
        · obtain rfl : k = l.length := by omega
          have hcI : (n64 : Int) ≤ (n1 : Int) := by omega
          have hc2 : (wh l l.length : Int) + 7 * (l.length : Int) + 5 ≤ (n1 : Int) := by omega
          generalize wh l l.length = y at *
          go_wp2_with fail; (with_reducible refine (awake12 _).mono ?_); rintro e w6 ⟨rfl, hb6⟩
          go_wp2
          go_ret
          exact ⟨rfl, bnext hb hb6⟩
end Go.Proofs.Ytebnllpcagkkbaa
