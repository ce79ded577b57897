/- alloc.Table: contracts beside a device. -/
import Derived.Test.YtcgjkgcafkcgoaaAlq
import Derived.Test.YtcgjkgcafkcgoaaAlow
namespace Go.Proofs.Ytcgjkgcafkcgoaa
open Go.RowKit
set_option linter.unusedVariables false
set_option linter.unusedSimpArgs false

section
variable {w : World} {B p d : Nat} {H : Nat → Prop} {R Q : List Int} {D : Dv}
theorem AT.role (h : AT w B p d H R Q D) (z : Int) : Calls Try.prog 13 #[.pointer (some ⟨p, 0, none⟩), .int .i64 z] w fun e w' => e = .returned (.int .i64 (roleAt R z)) ∧ w = w' := by
  obtain ⟨g, v, G, hT, hD, ha, hH⟩ := h
  exact role_any hT.tb z _ rfl
theorem AT.count (h : AT w B p d H R Q D) (r : Int) : Calls Try.prog 12 #[.pointer (some ⟨p, 0, none⟩), .int .i64 r] w fun e w' => e = .returned (.int .i64 (R.count r : Nat)) ∧ Below w.heap.size w w' := by
  obtain ⟨g, v, G, hT, hD, ha, hH⟩ := h
  exact count_any hT.tb r _ (by rw [places_all])
theorem AT.take_none (h : AT w B p d H R Q D) (r : Int) (hr : 1 ≤ r ∧ r ≤ 5) (h0 : R.count 0 = 0) :
    Calls Try.prog 11 #[.pointer (some ⟨p, 0, none⟩), .int .i64 r] w fun e w' => e = .returned (.tuple #[.int .i64 0, .int .i64 81]) ∧ w = w' := by
  obtain ⟨g, v, G, hT, hD, ha, hH⟩ := h
  exact _root_.Go.Proofs.Ytcgjkgcafkcgoaa.take_none hT.tb r (decide_eq_true hr) h0
theorem AT.take_bad (h : AT w B p d H R Q D) (r : Int) (hr : ¬ (1 ≤ r ∧ r ≤ 5)) :
    Calls Try.prog 11 #[.pointer (some ⟨p, 0, none⟩), .int .i64 r] w fun e w' => e = .returned (.tuple #[.int .i64 0, .int .i64 80]) ∧ w = w' := by
  obtain ⟨g, v, G, hT, hD, ha, hH⟩ := h
  exact _root_.Go.Proofs.Ytcgjkgcafkcgoaa.take_bad hT.tb r (decide_eq_false hr)
theorem AT.take (h : AT w B p d H R Q D) (r : Int) (hr : 1 ≤ r ∧ r ≤ 5) (n : Nat) (hn : n < R.length) (h0 : R[n] = 0) (hlow : ∀ i (hi : i < R.length), i < n → R[i] ≠ 0) :
    Calls Try.prog 11 #[.pointer (some ⟨p, 0, none⟩), .int .i64 r] w fun e w' => e = .returned (.tuple #[.int .i64 n, .int .i64 0]) ∧ AOut w B p d H (R.set n r) Q D w' := by
  obtain ⟨g, v, G, hT, hD, ha, hH⟩ := h
  refine (take_any hT.tb r (decide_eq_true hr)).mono ?_
  rintro e w' (⟨rfl, rfl, hz⟩ | ⟨m, hm, rfl, hz, hm2, rfl⟩)
  · exact absurd h0 (hz n hn)
  · obtain rfl : m = n := by
      rcases Nat.lt_trichotomy m n with h1 | h1 | h1
      · exact absurd hz (hlow m hm h1)
      · exact h1
      · exact absurd h0 (hm2 n hn h1)
    exact ⟨rfl, AT.tab hT hD ha hH (hT.set m r) ((Chg.set w g m _).mono fun k e => .inr (.inl e)) fun k hk => .inl hk⟩
end
set_option maxHeartbeats 2000000 in
theorem AT.queue {w : World} {B p d : Nat} {H : Nat → Prop} {R Q : List Int} {D : Dv} (h : AT w B p d H R Q D) (hq : Q.length ≤ 10000) :
    Calls Try.prog 17 #[.pointer (some ⟨p, 0, none⟩)] w fun e w' => ∃ u, e = .returned u ∧ w'.ownsRow w.heap.size 3 1 u Q.length (ivs Q) ∧ Below w.heap.size w w' := by
  obtain ⟨g, v, G, hT, hD, ha, hH⟩ := h
  obtain ⟨k0, k1, f0, f1⟩ := cell_pair hT.tb.1
  obtain ⟨ao, c, rfl, h1, h2, h3⟩ := row_shape hT.q
  have hc : Calls Try.prog 33 #[.slice ao Q.length c] w fun e w' => ∃ u, e = .returned u ∧ w'.ownsRow w.heap.size 3 1 u Q.length (ivs Q) ∧ Below w.heap.size w w' := by
    rcases hT.q.2 with ⟨e1, e2⟩ | ⟨g', cap, cur, e1, _, hg', hn, hm, hs, ht⟩
    · simp only [Value.slice.injEq] at e1
      obtain ⟨rfl, _, rfl⟩ := e1
      have hQ : Q = [] := List.eq_nil_of_length_eq_zero e2
      subst hQ
      refine (Try.slices_Clone_int_nil 0 0 w).mono ?_
      rintro e w' ⟨rfl, rfl⟩
      exact ⟨_, rfl, World.ownsRow_nil _ _ _ _, Below.refl _ _⟩
    · simp only [Value.slice.injEq] at e1
      obtain ⟨rfl, _, rfl⟩ := e1
      refine (Try.slices_Clone_int g' 0 Q.length c Q w (Nat.le_refl _) (by omega) (fun j hj => ?_)).mono ?_
      · rw [Nat.zero_add, World.ownsRow.cellAt hT.q j (by omega)]
        simp [ivs, hj, List.getD]
      · rintro e w' ⟨v', rfl, ho, _, hb⟩
        rw [List.take_of_length_le (Nat.le_refl _)] at ho
        exact ⟨v', rfl, ho, hb⟩
  have HC := Lib.hid hc
  clear hc hT hD ha hH h3
  go_enter Try.func17, Try.ntmps17
  go_wp2_with fail; (with_reducible refine (HC.out).mono ?_); rintro e w2 ⟨u, rfl, ho, hb⟩
  obtain ⟨a2, c2, rfl, _⟩ := row_shape ho
  have HO := Lib.hid ho
  clear ho
  go_wp2
  go_ret
  exact ⟨_, rfl, HO.out, hb⟩
set_option maxHeartbeats 2000000 in
theorem AT.release_no {w : World} {B p d : Nat} {H : Nat → Prop} {R Q : List Int} {D : Dv} (h : AT w B p d H R Q D) (z : Int) (hz : ¬ (1 ≤ roleAt R z ∧ roleAt R z ≤ 5)) :
    Calls Try.prog 15 #[.pointer (some ⟨p, 0, none⟩), .int .i64 z] w fun e w' => e = .returned (.int .i64 (if roleAt R z = -1 then 70 else 80)) ∧ w = w' := by
  have Hr := Lib.hid (h.role z)
  clear h
  generalize roleAt R z = y at *
  by_cases h1 : y = -1
  · subst h1
    go_enter Try.func15, Try.ntmps15
    go_wp2_with fail; (with_reducible refine (Hr.out).mono ?_); rintro e w ⟨rfl, rfl⟩
    go_wp2
    go_ret
    exact ⟨rfl, rfl⟩
  · have h1' : (y == -1) = false := by rw [beq_eq_false_iff_ne]; exact h1
    rw [if_neg h1]
    have Hu := Lib.hid (used_any y w false (decide_eq_false hz))
    clear h1 hz
    go_enter Try.func15, Try.ntmps15
    go_wp2_with fail; (with_reducible refine (Hr.out).mono ?_); rintro e w ⟨rfl, rfl⟩
    go_wp2_with fail; (with_reducible refine (Hu.out).mono ?_); rintro e w ⟨rfl, rfl⟩
    go_wp2
    go_ret
    exact ⟨rfl, rfl⟩
set_option maxRecDepth 100000 in
set_option maxHeartbeats 4000000 in
theorem AT.release {w : World} {B p d : Nat} {H : Nat → Prop} {R Q : List Int} {D : Dv} (h : AT w B p d H R Q D) (n : Nat) (hn : n < R.length) (hu : 1 ≤ R[n] ∧ R[n] ≤ 5) (hq : Q.length ≤ 10000) :
    Calls Try.prog 15 #[.pointer (some ⟨p, 0, none⟩), .int .i64 n] w fun e w' => e = .returned (.int .i64 0) ∧ AOut w B p d H (R.set n 6) (Q ++ [(n : Int)]) D w' := by
  have Hr := Lib.hid (h.role n)
  rw [roleAt_in hn] at Hr
  have Hu := Lib.hid (used_any R[n] w true (decide_eq_true hu))
  obtain ⟨g, v, G, hT, hD, ha, hH⟩ := h
  have hl := hT.tb.2.2.2
  obtain ⟨k0, k1, f0, f1⟩ := cell_pair hT.tb.1
  have hc := hT.tb.cell n hn
  have hf := hT.tb.fz n
  have hy : (R[n] == -1) = false := by rw [beq_eq_false_iff_ne]; omega
  have HT := Lib.hid hT
  have HD := Lib.hid hD
  have HA := Lib.hid ha
  have HH := Lib.hid hH
  obtain ⟨i0, hi, hz0, hz1, hz2⟩ := info_parts infoInt
  have Hi := Lib.hid hi
  have Hz0 := Lib.hid hz0
  have Hz3 := Lib.hid hz1
  have Hzb := Lib.hid hz2
  clear hT hD ha hH hu hi hz0 hz1 hz2
  generalize R[n] = y at *
  go_enter Try.func15, Try.ntmps15
  go_wp2_with fail; (with_reducible refine (Hr.out).mono ?_); rintro e w ⟨rfl, rfl⟩
  go_wp2_with fail; (with_reducible refine (Hu.out).mono ?_); rintro e w ⟨rfl, rfl⟩
  go_upto_region 7 with (fail)
  refine gen_wp (fun w' => w' = w.setCell ⟨g, n, none⟩ (.int .i64 6)) rfl ?_
  rintro w1 hw1
  have hT1 : TQ w1 B p g (R.set n 6) v Q := by rw [hw1]; exact HT.out.set n 6
  have hc1 : Chg (fpT p g v) w w1 := by rw [hw1]; exact (Chg.set w g n _).mono fun k e => .inr (.inl e)
  clear hw1 k0 k1 f0 f1 hc hf Hr Hu
  obtain ⟨k0, k1, f0, f1⟩ := cell_pair hT1.tb.1
  have HT1 := Lib.hid hT1
  have hbz : B ≤ w1.heap.size := by have := (hT1.lt p (.inl rfl)); omega
  have HY : Hid (∀ v2 w2, w2.ownsRow B 3 1 v2 (Q.length + 1) (ivs Q ++ [.int .i64 n]) → w2.ownsRow B 3 1 v Q.length (ivs Q) → App w1 w2 v v2 → (∃ a2 c2, v2 = .slice a2 (Q.length + 1) c2) ∧ TQ w2 B p g (R.set n 6) v Q ∧ AOut w B p d H (R.set n 6) (Q ++ [(n : Int)]) D (w2.setCell ⟨p, 1, none⟩ v2)) := Lib.hid fun v2 w2 ho2 hold ha2 => by
    have hca := Chg.of_app ha2
    have hT2 : TQ w2 B p g (R.set n 6) v Q := by
      have hne : ∀ k, k = p ∨ k = g → ¬ v.ownBlock = some k := by
        rintro k (rfl | rfl) e
        · exact HT1.out.vp e
        · exact HT1.out.vg e
      refine ⟨⟨blk_chg HT1.out.tb.1 hca (hne p (.inl rfl)), row_same HT1.out.tb.2.1 fun k hk => ?_, HT1.out.tb.2.2.1, HT1.out.tb.2.2.2⟩, hold, HT1.out.vp, HT1.out.vg⟩
      have e : g = k := by simpa [Value.ownBlock] using hk
      subst e
      exact hca.block g HT1.out.tb.glt.2 (hne g (.inr rfl))
    have e2 : ivs Q ++ [.int .i64 n] = ivs (Q ++ [(n : Int)]) := by rw [ivs_append]; rfl
    have hl2 : (Q ++ [(n : Int)]).length = Q.length + 1 := by simp
    have hlies : ∀ k, v2.ownBlock = some k → v.ownBlock = some k ∨ w1.heap.size ≤ k := fun k hk => by
      rcases ha2.lies with e | ⟨q, e, hq⟩
      · exact .inl (by rw [← e]; exact hk)
      · rw [e] at hk; cases hk; exact .inr hq
    have h3 := hT2.putQ (Q1 := Q ++ [(n : Int)]) (v1 := v2) (by rw [← e2, hl2]; exact ho2) (fun k hk => by
      rcases hlies k hk with h | h
      · exact .inl h
      · exact .inr fun hf => by have := (HT1.out.lt k hf).2; omega)
    obtain ⟨a2, c2, rfl, _⟩ := row_shape ho2
    refine ⟨⟨a2, c2, rfl⟩, hT2, AT.tab HT.out HD.out HA.out HH.out h3 ((hc1.trans2 hca fun i _ e => .inr (.inr e)).trans2 (Chg.set w2 p 1 _) fun i _ e => .inl e) fun k hk => ?_⟩
    rcases hlies k hk with h | h
    · exact .inl h
    · exact .inr (Nat.le_trans hc1.size h)
  clear hT1 hc1 HD HA HH HT
  obtain ⟨av, cv, rfl, _⟩ := row_shape HT1.out.q
  go_wp2_with (at_builtin; go_loud (refine wpList_appN rfl (.tmp 26) (.tmp 28) 22 3 i0 (.int .i64 0) 1 8 Try.underlying22 Hi.out Hz0.out Hz3.out Hzb.out rfl (by decide) rfl B _ Q.length (ivs Q) rfl HT1.out.q #[.int .i64 n] 1 1 (by first | rfl | (simp; done) | (simp; rfl)) rfl (by intro u hu; simp at hu; subst hu; rfl) (by unfold maxLen; omega) (by omega) (by first | exact hbz | (simp; omega)) ?_); intro v2 w2 ho2 hold2 ha2; have hx := HY.out _ _ ho2 hold2 ha2; obtain ⟨⟨a2, c2, rfl⟩, hT2, hAO⟩ := hx; obtain ⟨m0, m1, n0, n1⟩ := cell_pair hT2.tb.1; have HAO := Lib.hid hAO; clear ho2 hold2 ha2 hT2 hAO)
  go_ret
  exact ⟨rfl, HAO.out⟩
end Go.Proofs.Ytcgjkgcafkcgoaa
