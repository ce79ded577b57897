/- The contract of ikey.Parse. -/
import Derived.Test.YtmhklmecpbdljaaDoorYUser
import Derived.Test.YtmhklmecpbdljaaDoorYRdMore
namespace Go.Proofs.YtmhklmecpbdljaaDoor
open Go.RowKit
set_option linter.unusedVariables false

/-- the key of bytes, ahead of the check: user, age, kind -/
def seven (r : List UInt8) : Option (Nat × Nat) :=
  if (rdB (rdN 6 r).2.1 (rdN 6 r).2.2).2 = ([], false) then some ((rdN 6 r).1, (rdB (rdN 6 r).2.1 (rdN 6 r).2.2).1.toNat) else none

def ParseOut (w : World) (l : List UInt8) (e : Ending) (w' : World) : Prop :=
  Below w.heap.size w w' ∧
  ((∃ u r a k, userP l = some (u, r) ∧ seven r = some (a, k) ∧ keyRight ⟨u.toArray⟩ (1099511627776 - a) (255 - k) = true ∧ e = .returned (.tuple #[.agg #[.string ⟨u.toArray⟩, .int .i64 (1099511627776 - a), .int .i64 (255 - k)], .int .i64 0])) ∨
   ((∀ u r a k, userP l = some (u, r) → seven r = some (a, k) → keyRight ⟨u.toArray⟩ (1099511627776 - a) (255 - k) = false) ∧ e = .returned (.tuple #[.agg #[.string ⟨#[]⟩, .int .i64 0, .int .i64 0], .int .i64 30])))

/-- what user tells, in one form: the user's bytes, how far, whether there are any -/
def UserIs (l : List UInt8) (u : List UInt8) (j : Nat) (b : Bool) : Prop :=
  (b = true ∧ userP l = some (u, l.drop j) ∧ j ≤ l.length) ∨ (b = false ∧ userP l = none ∧ j = 0 ∧ u = [])

theorem UserOut.is {w w' : World} {l : List UInt8} {e : Ending} (h : UserOut w l e w') : ∃ v u j b, e = .returned (.tuple #[v, .int .i64 (j : Nat), .bool b]) ∧ UserIs l u j b ∧ j ≤ l.length ∧ RB w' v u ∧ Below w.heap.size w w' := by
  unfold UserOut at h
  split at h
  · rename_i u r hu
    obtain ⟨v, rfl, ho, hr, hd, hb⟩ := h
    exact ⟨v, u, _, true, rfl, .inl ⟨rfl, by rw [hu, ← hd], Nat.sub_le _ _⟩, Nat.sub_le _ _, ho.reads, hb⟩
  · rename_i hu
    obtain ⟨rfl, hb⟩ := h
    exact ⟨_, [], 0, false, rfl, .inr ⟨rfl, hu, rfl, rfl⟩, Nat.zero_le _, RB.nil _ _ _, hb⟩

set_option maxRecDepth 100000 in
set_option maxHeartbeats 4000000 in
theorem parse_any {w : World} {ao : Option Addr} {c : Nat} {l : List UInt8} (h : RB w (.slice ao l.length c) l) (hl : l.length ≤ 140737488355327) :
    Calls Tryd.prog 62 #[.slice ao l.length c] w (ParseOut w l) := by
  have hu := user_any (h.alloc (.cells #[.string ⟨#[]⟩, .int .i64 0, .int .i64 0] 27)) hl
  have Hu := Lib.hid hu
  have H := Lib.hid h
  have hlc := h.capl
  clear h hu
  go_enter Tryd.func62, Tryd.ntmps62
  go_upto_region 2 with (go_at_call 78; (with_reducible refine (Hu.out).mono ?_); intro e w1 ho; obtain ⟨v, u, j, b, rfl, hi, hj, hru, hb⟩ := ho.is)
  clear ho Hu
  have hk : w1.heap[w.heap.size]? = some (.cells #[.string ⟨#[]⟩, .int .i64 0, .int .i64 0] 27 (0, 0)) := by
    rw [hb.block _ (by simp)]; exact heap_alloc_new w _
  have hl1 : RB w1 (.slice ao l.length c) l := (H.out.alloc _).below hb
  have hb1 : Below w.heap.size w w1 := ((Below.refl _ w).alloc (Nat.le_refl _) _).trans (hb.mono (by simp))
  have hz1 : w.heap.size < w1.heap.size := Nat.lt_of_lt_of_le (by simp) hb.size
  have Hk := Lib.hid hk
  have Hl1 := Lib.hid hl1
  have Hb1 := Lib.hid hb1
  have Hz1 := Lib.hid hz1
  have Hru := Lib.hid hru
  have Hi := Lib.hid hi
  clear hb H hk hl1 hb1 hz1 hru hi
  go_cut [7] from 16 to 19 (fun r wx => ∃ p go, r = .pointer (some ⟨p, 0, none⟩) ∧ w1.heap.size ≤ p ∧ (∀ k, go = some k → w1.heap.size ≤ k) ∧ RD wx p go (l.drop j) false ∧ Below w1.heap.size w1 wx)
  case first =>
    by_cases hl0 : l.length = 0
    · have hl1 : l = [] := List.eq_nil_of_length_eq_zero hl0
      subst hl1
      obtain rfl : j = 0 := by simpa using hj
      clear Hi hl0
      simp only [List.length_nil] at hlc hl hj ⊢
      cases ao with
      | none =>
        go_wp2_with (go_at_call 46; (refine (newreader_any (l := []) (RB.nil _ _ _) (by decide)).mono ?_); rintro e w2 ⟨p, go, rfl, h1, h2, h3, h4⟩)
        go_meet
        exact ⟨p, go, rfl, h1, h2, h3, h4⟩
      | some a =>
        go_wp2_with (go_at_call 46; (refine (newreader_any (l := []) (RB.nil _ _ _) (by decide)).mono ?_); rintro e w2 ⟨p, go, rfl, h1, h2, h3, h4⟩)
        go_meet
        exact ⟨p, go, rfl, h1, h2, h3, h4⟩
    · obtain ⟨ba, off, rfl⟩ := Hl1.out.addr (by omega)
      by_cases hcj : c = j
      · obtain rfl : j = l.length := by omega
        obtain rfl : c = l.length := by omega
        have hdr : RB w1 (.slice (some ⟨ba, off, none⟩) 0 0) (l.drop l.length) := by
          rw [List.drop_of_length_le (by omega)]; exact RB.nil _ _ _
        have hdl : (l.drop l.length).length ≤ 140737488355328 := by rw [List.length_drop]; omega
        have hn := newreader_any hdr hdl
        have Hn := Lib.hid hn
        clear hn hdr hdl hl0 hcj
        go_wp2_with (go_at_call 46; (with_reducible refine (Hn.out).mono ?_); rintro e w2 ⟨p, go, rfl, h1, h2, h3, h4⟩)
        go_meet
        exact ⟨p, go, rfl, h1, h2, h3, h4⟩
      · have hdr : RB w1 (.slice (some ⟨ba, off + j, none⟩) (l.length - j) (c - j)) (l.drop j) := rb_drop Hl1.out hj (by omega)
        have hdl : (l.drop j).length ≤ 140737488355328 := by rw [List.length_drop]; omega
        have hn := newreader_any hdr hdl
        have Hn := Lib.hid hn
        clear hn hdr hdl hl0
        go_wp2_with (go_at_call 46; (with_reducible refine (Hn.out).mono ?_); rintro e w2 ⟨p, go, rfl, h1, h2, h3, h4⟩)
        go_meet
        exact ⟨p, go, rfl, h1, h2, h3, h4⟩
  case rest =>
    obtain ⟨p, go, rfl, hp, hgo, hrd, hb2⟩ := hcut
    have Hrd := Lib.hid hrd
    have Hb2 := Lib.hid hb2
    have Hgo := Lib.hid hgo
    clear hrd hb2 hgo
    go_wp2
    go_loopw [8, 20] (fun v i wr => ∃ r : Nat, r ≤ 6 ∧ i = .int .i64 r ∧ v = .int .i64 (rdN r (l.drop j)).1 ∧ RD wr p go (rdN r (l.drop j)).2.1 (rdN r (l.drop j)).2.2 ∧ Below w1.heap.size w1 wr) (fun _ i _ => 6 - (intOf i).toNat)
    case atStart => exact ⟨0, by omega, rfl, rfl, Hrd.out, Hb2.out⟩
    case round =>
      obtain ⟨r, hr, rfl, rfl, hrd, hbl⟩ := hrel
      have hby := byte_any hrd
      have Hby := Lib.hid hby
      have hby2 := byte_any (w := wr.drew) (p := p) (go := go) (l := (rdN r (l.drop j)).2.1) (bad := (rdN r (l.drop j)).2.2) hrd
      have Hby2 := Lib.hid hby2
      have hby3 := byte_any (w := (wr.alloc (.cells #[.string ⟨#[]⟩, .int .i64 0, .int .i64 0] 27)).drew) (p := p) (go := go) (l := (rdN r (l.drop j)).2.1) (bad := (rdN r (l.drop j)).2.2) (hrd.below ((Below.refl _ wr).alloc (Nat.le_refl _) _).drew)
      have Hby3 := Lib.hid hby3
      have hplt := hrd.lt
      have Hgl : Hid (∀ k, go = some k → k ≠ wr.heap.size) := Lib.hid fun k hk => by obtain ⟨_, _, _, _, _, h5⟩ := hrd; have := (h5 k hk).1; omega
      clear hby2 hby3
      have Hbl := Lib.hid hbl
      have hlt := rdN_lt r (l.drop j)
      clear hby hrd hbl
      by_cases h6 : r < 6
      · have hlt2 : (rdN r (l.drop j)).1 < 1099511627776 := Nat.lt_of_lt_of_le hlt (by
          have : 256 ^ r ≤ 256 ^ 5 := Nat.pow_le_pow_right (by decide) (by omega)
          simpa using this)
        have hc8 := (rdB (rdN r (l.drop j)).2.1 (rdN r (l.drop j)).2.2).1.toNat_lt
        have hor := or_byte _ _ hlt2 hc8
        have e1 : rdN (r + 1) (l.drop j) = (256 * (rdN r (l.drop j)).1 + (rdB (rdN r (l.drop j)).2.1 (rdN r (l.drop j)).2.2).1.toNat, (rdB (rdN r (l.drop j)).2.1 (rdN r (l.drop j)).2.2).2) := rfl
        have E1 := Lib.hid e1
        clear hlt e1
        generalize rdN r (l.drop j) = st at *
        obtain ⟨a, l2, bad⟩ := st
        generalize rdB l2 bad = q at *
        obtain ⟨cc, l3, bad3⟩ := q
        simp only at hor Hby E1 hc8 hlt2
        have Hor := Lib.hid hor
        clear hor
        go_wp2_with (go_at_call 70; (with_reducible refine (Hby.out).mono ?_); rintro e w3 ⟨rfl, h1, h2⟩)
        go_roundw
        case rel => exact ⟨r + 1, by omega, by go_num, by rw [E1.out, Hor.out], by rw [E1.out]; exact h1, grew Hbl.out h2 hp Hbl.out.size⟩
        case measure => simp [intOf]; omega
      · obtain rfl : r = 6 := by omega
        have Hsv : Hid (seven (l.drop j) = if (rdB (rdN 6 (l.drop j)).2.1 (rdN 6 (l.drop j)).2.2).2 = ([], false) then some ((rdN 6 (l.drop j)).1, (rdB (rdN 6 (l.drop j)).2.1 (rdN 6 (l.drop j)).2.2).1.toNat) else none) := Lib.hid rfl
        have hc8 := (rdB (rdN 6 (l.drop j)).2.1 (rdN 6 (l.drop j)).2.2).1.toNat_lt
        have hlt2 : (rdN 6 (l.drop j)).1 < 281474976710656 := hlt
        clear hlt
        generalize rdN 6 (l.drop j) = st at *
        obtain ⟨a, l2, bad⟩ := st
        generalize rdB l2 bad = q at *
        obtain ⟨cc, l3, bad3⟩ := q
        simp only at Hby2 Hby3 Hsv hc8 hlt2
        have hcv : ∀ w', Below w1.heap.size w1 w' → (convert 23 9 v).run Tryd.prog w' = .ok (.string ⟨u.toArray⟩) w' := fun w' hb => (Hru.out.below hb).string
        have hbl : Below w1.heap.size w1 wr.drew := Hbl.out.drew
        have hcv1 := hcv _ hbl
        have Hbl2 := Lib.hid hbl
        have hbl3 : Below w1.heap.size w1 (wr.alloc (.cells #[.string ⟨#[]⟩, .int .i64 0, .int .i64 0] 27)).drew := (Hbl.out.alloc Hbl.out.size _).drew
        have hcv2 := hcv _ hbl3
        have Hbl3 := Lib.hid hbl3
        clear hbl hbl3
        have hplt2 : wr.heap.size ≠ p := by omega
        have Hplt := Lib.hid hplt2
        clear hplt2
        have hw1 : IntKind.i64.wrap (1099511627776 - (a : Int)) = 1099511627776 - (a : Int) := by rw [IntKind.wrap_i64]; omega
        have hw2 : IntKind.i64.wrap (cc.toNat : Int) = (cc.toNat : Int) := by rw [IntKind.wrap_i64]; omega
        have hw3 : IntKind.i64.wrap (255 - (cc.toNat : Int)) = 255 - (cc.toNat : Int) := by rw [IntKind.wrap_i64]; omega
        have Hw := Lib.hid (And.intro hw1 (And.intro hw2 hw3))
        clear hw1 hw2 hw3
        go_upto_region 8 with fail
        go_cut [9] from 29 to 37 (fun s wx => ∃ q, s = .pointer (some ⟨q, 0, none⟩) ∧ w1.heap.size ≤ q ∧ q ≠ p ∧ wx.heap[q]? = some (.cells #[.string ⟨u.toArray⟩, .int .i64 (1099511627776 - a), .int .i64 (255 - cc.toNat)] 27 (0, 0)) ∧ RD wx p go l3 bad3 ∧ Below w1.heap.size w1 wx)
        case first =>
          go_region_with (first
            | (go_at_call 70; (with_reducible refine (Hby2.out).mono ?_); rintro e w3 ⟨rfl, h1, h2⟩; have hb3 := grew Hbl2.out h2 hp Hbl2.out.size; have hcv3 := hcv _ hb3; have hcv4 := hcv _ (hb3.alloc hb3.size (.cells #[.string ⟨#[]⟩, .int .i64 0, .int .i64 0] 27)))
            | (go_at_call 70; (with_reducible refine (Hby3.out).mono ?_); rintro e w3 ⟨rfl, h1, h2⟩; have hb3 := grew Hbl3.out h2 hp Hbl3.out.size; have hcv3 := hcv _ hb3; have hk3 := h2.block wr.heap.size (by simp) (by intro e; injection e with e; exact Hplt.out e); rw [show (wr.alloc (.cells #[.string ⟨#[]⟩, .int .i64 0, .int .i64 0] 27)).drew.heap[wr.heap.size]? = _ from heap_alloc_new wr _] at hk3; obtain ⟨k0, k1, k2, f0, f1, f2⟩ := cell_three hk3; have Hk3 := Lib.hid hk3; clear hk3))
          all_goals (go_wp2_with fail; go_meet; simp only [Hw.out.1, Hw.out.2.1, Hw.out.2.2]; first
            | exact end_alloc h1 hb3 hb3.size _ _
            | exact end_set h1 hb3 Hk3.out Hbl.out.size (fun e => Hplt.out e) Hgl.out _ _ _)
        case rest =>
          obtain ⟨q, rfl, hq, hqp, hqr, hrd, hb3⟩ := hcut
          have hk9 : wc.heap[w.heap.size]? = some (.cells #[.string ⟨#[]⟩, .int .i64 0, .int .i64 0] 27 (0, 0)) := (hb3.block _ Hz1.out).trans Hk.out
          have hBw : Below w.heap.size w wc := Hb1.out.trans (hb3.mono (Nat.le_of_lt Hz1.out))
          have hsz := hBw.size
          have hqn : q ≠ w.heap.size := by have := Hz1.out; omega
          obtain ⟨k0, k1, k2, f0, f1, f2⟩ := cell_three hk9
          obtain ⟨m0, m1, m2, g0, g1, g2⟩ := cell_three hqr
          have hset : ∀ w', Below w.heap.size w w' → ∀ x y z, Below w.heap.size w (((w'.setCell ⟨w.heap.size, 0, none⟩ x).setCell ⟨w.heap.size, 1, none⟩ y).setCell ⟨w.heap.size, 2, none⟩ z) := fun w' h x y z => ((h.setCell (Nat.le_refl _) _).setCell (Nat.le_refl _) _).setCell (Nat.le_refl _) _
          have Hset := Lib.hid hset
          have HBw := Lib.hid hBw
          have Hk9 : Hid (∀ w4, Below wc.heap.size wc w4 → w4.heap[w.heap.size]? = some (.cells #[.string ⟨#[]⟩, .int .i64 0, .int .i64 0] 27 (0, 0))) := Lib.hid fun w4 h => (h.block _ (Array.getElem?_eq_some_iff.1 hk9).1).trans hk9
          have Hq9 : Hid (∀ w4, Below wc.heap.size wc w4 → w4.heap[q]? = some (.cells #[.string ⟨u.toArray⟩, .int .i64 (1099511627776 - a), .int .i64 (255 - cc.toNat)] 27 (0, 0))) := Lib.hid fun w4 h => (h.block _ (Array.getElem?_eq_some_iff.1 hqr).1).trans hqr
          have Hal : Hid (∀ w4, wc.alloc (.cells #[.string ⟨u.toArray⟩, .int .i64 (1099511627776 - a), .int .i64 (255 - cc.toNat)] 27) = w4 → Below wc.heap.size wc w4) := Lib.hid fun w4 h => h ▸ (Below.refl _ wc).alloc (Nat.le_refl _) _
          clear hk9 hBw hset hqr hcv hcv1 hcv2 hb3 Hbl3 Hbl2 Hby3 Hby2
          cases b with
          | false =>
            have hn : userP l = none := by
              rcases Hi.out with ⟨h, _⟩ | ⟨_, h, _⟩
              · cases h
              · exact h
            have Hn := Lib.hid hn
            clear hn
            go_wp2
            refine bodyPost_ret (v := .tuple #[.agg #[.string ⟨#[]⟩, .int .i64 0, .int .i64 0], .int .i64 30]) (by simp [results, Tryd.results62, go_sem, k0, k1, k2]) rfl ?_
            exact ⟨Hset.out _ HBw.out _ _ _, .inr ⟨fun u r a k h => (by rw [Hn.out] at h; cases h), rfl⟩⟩
          | true =>
            have hn : userP l = some (u, l.drop j) := by
              rcases Hi.out with ⟨_, h, _⟩ | ⟨h, _⟩
              · exact h
              · cases h
            have Hn := Lib.hid hn
            clear hn
            by_cases hd : bad3 = false ∧ l3 = []
            · have hdone := done_any hrd 0 (by rw [if_pos hd])
              have Hdone := Lib.hid hdone
              obtain ⟨rfl, rfl⟩ := hd
              clear hdone hrd
              cases hr6 : keyRight ⟨u.toArray⟩ (1099511627776 - a) (255 - (cc.toNat : Int)) with
              | true =>
                have hck := check_ok ⟨u.toArray⟩ (1099511627776 - a) (255 - (cc.toNat : Int)) wc hr6
                have Hck := Lib.hid hck
                have Hr6 := Lib.hid hr6
                clear hck hr6
                go_wp2_with (first
                  | (go_at_call 48; (with_reducible refine (Hdone.out).mono ?_); rintro e w' ⟨rfl, rfl⟩)
                  | (go_at_call 75; (with_reducible refine (Hck.out).mono ?_); rintro e w4 ⟨rfl, hw4⟩; have hb4 := Hal.out w4 hw4; clear hw4; obtain ⟨k0, k1, k2, f0, f1, f2⟩ := cell_three (Hk9.out w4 hb4); obtain ⟨m0, m1, m2, g0, g1, g2⟩ := cell_three (Hq9.out w4 hb4); have Hb4 := Lib.hid hb4; clear hb4))
                refine bodyPost_ret (v := .tuple #[.agg #[.string ⟨u.toArray⟩, .int .i64 (1099511627776 - a), .int .i64 (255 - cc.toNat)], .int .i64 0]) (by simp [results, Tryd.results62, go_sem, k0, k1, k2]) rfl ?_
                have hk : seven (l.drop j) = some (a, cc.toNat) := by rw [Hsv.out]; rfl
                exact ⟨Hset.out _ (HBw.out.trans (Hb4.out.mono hsz)) _ _ _, .inl ⟨u, _, a, cc.toNat, Hn.out, hk, Hr6.out, rfl⟩⟩
              | false =>
                have hck := check_bad ⟨u.toArray⟩ (1099511627776 - a) (255 - (cc.toNat : Int)) wc hr6
                have Hck := Lib.hid hck
                have Hr6 := Lib.hid hr6
                clear hck hr6
                go_wp2_with (first
                  | (go_at_call 48; (with_reducible refine (Hdone.out).mono ?_); rintro e w' ⟨rfl, rfl⟩)
                  | (go_at_call 75; (with_reducible refine (Hck.out).mono ?_); rintro e w4 ⟨rfl, hw4⟩; have hb4 := Hal.out w4 hw4; clear hw4; obtain ⟨k0, k1, k2, f0, f1, f2⟩ := cell_three (Hk9.out w4 hb4); obtain ⟨m0, m1, m2, g0, g1, g2⟩ := cell_three (Hq9.out w4 hb4); have Hb4 := Lib.hid hb4; clear hb4))
                refine bodyPost_ret (v := .tuple #[.agg #[.string ⟨#[]⟩, .int .i64 0, .int .i64 0], .int .i64 30]) (by simp [results, Tryd.results62, go_sem, k0, k1, k2]) rfl ?_
                have hk : seven (l.drop j) = some (a, cc.toNat) := by rw [Hsv.out]; rfl
                refine ⟨Hset.out _ (HBw.out.trans (Hb4.out.mono hsz)) _ _ _, .inr ⟨fun u' r a' k h h2 => ?_, rfl⟩⟩
                rw [Hn.out] at h
                cases h
                rw [hk] at h2
                cases h2
                exact Hr6.out
            · have hdone := done_any hrd 20 (by rw [if_neg hd])
              have Hdone := Lib.hid hdone
              have Hd := Lib.hid hd
              clear hdone hrd hd
              go_wp2_with (go_at_call 48; (with_reducible refine (Hdone.out).mono ?_); rintro e w' ⟨rfl, rfl⟩)
              refine bodyPost_ret (v := .tuple #[.agg #[.string ⟨#[]⟩, .int .i64 0, .int .i64 0], .int .i64 30]) (by simp [results, Tryd.results62, go_sem, k0, k1, k2]) rfl ?_
              refine ⟨Hset.out _ HBw.out _ _ _, .inr ⟨fun u' r a' k h h2 => ?_, rfl⟩⟩
              rw [Hn.out] at h
              cases h
              rw [Hsv.out, if_neg (fun e => Hd.out (by injection e with e1 e2; exact ⟨e2, e1⟩))] at h2
              cases h2
end Go.Proofs.YtmhklmecpbdljaaDoor
