/- BatchFinds: its walk. -/
import Derived.Test.YtmgifejmheoddaaBfind
import Derived.Test.YtmgifejmheoddaaBaw
import Derived.Test.YtmgifejmheoddaaBsame
namespace Go.Proofs.Ytmgifejmheoddaa
open Go.RowKit
set_option linter.unusedVariables false
set_option linter.unusedSimpArgs false

def keyIs (l : List OpD) (key : ByteArray) (j : Nat) : Bool := (opAtB l j).key.toList == key.toList
/-- the last of the first k whose key it is -/
def LastIs (l : List OpD) (key : ByteArray) (k : Nat) (z : Int) : Prop :=
  (z = -1 ∧ ∀ i, i < k → keyIs l key i = false) ∨ (∃ j, j < k ∧ z = (j : Nat) ∧ keyIs l key j = true ∧ ∀ i, j < i → i < k → keyIs l key i = false)

set_option maxRecDepth 100000 in
set_option maxHeartbeats 8000000 in
theorem bfinds_yes {w : World} {a : Option Addr} {c : Nat} {l : List OpD} (h : OPs w a l) (hl : l.length ≤ maxLen) (seq : Int) (key : ByteArray) (hkl : key.size ≤ maxLen) :
    Calls Try.prog 5 #[.agg #[.int .i64 seq, .slice a l.length c], .string key] w fun e w' => e = .returned (.bool true) ∧ Below w.heap.size w w' := by
  have H := Lib.hid h
  have hl' := hl
  unfold maxLen at hl' hkl
  clear h
  go_enter Try.func5, Try.ntmps5
  go_upto_region 1 with (fail)
  refine gen_wp (fun w' => Below w.heap.size w w' ∧ w'.cell? ⟨w.heap.size, 0, none⟩ = some (.int .i64 seq) ∧ w'.cell? ⟨w.heap.size, 1, none⟩ = some (.slice a l.length c)) ?_ ?_
  · refine ⟨?_, ?_, ?_⟩
    · (repeat first | exact Below.refl _ _ | refine Below.drew ?_ | refine Below.alloc ?_ (by simp <;> omega) _ | refine Below.setCell ?_ (by simp <;> omega) _)
    all_goals go_simp
  rintro w0 ⟨hb0, c0, c1⟩
  have s0 := cell_next c0
  have s1 := cell_next c1
  have HO : Hid (∀ w', Below w0.heap.size w0 w' → OPs w' a l) := by
    have h0 := H.out.below (hb0.mono (Nat.le_refl _))
    exact Lib.hid fun w' hb => h0.below hb
  have B0 := Below.refl w0.heap.size w0
  clear c0 c1
  have hsm := bsmall_any (c := c) (HO.out _ B0) hl seq
  have Hsm := Lib.hid hsm
  clear hsm
  cases hs : small10 l with
  | false =>
    rw [hs] at Hsm
    clear hs
    go_wp2_with fail; (with_reducible refine (Hsm.out).mono ?_); rintro e w1 ⟨rfl, hb1⟩
    go_wp2_with fail; (with_reducible refine (awake_any _).mono ?_); rintro e w2 ⟨rfl, hb2⟩
    go_wp2
    go_ret
    exact ⟨rfl, hb0.trans ((bnext hb1 hb2).mono hb0.size)⟩
  | true =>
    rw [hs] at Hsm
    clear hs
    go_wp2_with fail; (with_reducible refine (Hsm.out).mono ?_); rintro e w1 ⟨rfl, hb1⟩
    have e0 := s0 _ hb1
    have e1 := s1 _ hb1
    by_cases hk5 : key.size ≤ 500
    case neg =>
      have hk5 : 500 < key.size := by omega
      go_wp2_with fail; (with_reducible refine (awake_any _).mono ?_); rintro e w2 ⟨rfl, hb2⟩
      go_wp2
      go_ret
      exact ⟨rfl, hb0.trans ((bnext hb1 hb2).mono hb0.size)⟩
    have hf := find_any (c := c) (HO.out _ hb1) hl seq key
    have Hf := Lib.hid hf
    clear hf Hsm
    go_wp2_with fail; (with_reducible refine (Hf.out).mono ?_); rintro e w2 ⟨hfo, hb2⟩
    have B2 := bnext hb1 hb2
    clear e0 e1 Hf hb1 hb2
    obtain ⟨R, bk, he, hRz⟩ : ∃ (R : OpD) (bk : Bool), e = .returned (.tuple #[.agg #[.int .i64 R.kind, .string R.key, .string R.val], .bool bk]) ∧
        ((bk = false ∧ R = ⟨0, ⟨#[]⟩, ⟨#[]⟩⟩ ∧ ∀ j, j < l.length → keyIs l key j = false) ∨ (bk = true ∧ ∃ j, j < l.length ∧ R = opAtB l j ∧ keyIs l key j = true ∧ ∀ i, j < i → i < l.length → keyIs l key i = false)) := by
      rcases hfo with ⟨h1, h2⟩ | ⟨j, h1, h2, h3, h4⟩
      · exact ⟨⟨0, ⟨#[]⟩, ⟨#[]⟩⟩, false, h1, .inl ⟨rfl, rfl, h2⟩⟩
      · exact ⟨opAtB l j, true, h2, .inr ⟨rfl, j, h1, rfl, h3, h4⟩⟩
    subst he
    have HRz := Lib.hid hRz
    clear hfo hRz
    go_upto_region 4 with fail
    refine gen_wp (fun w' => w'.cell? ⟨w2.heap.size, 0, none⟩ = some (.int .i64 R.kind) ∧ w'.cell? ⟨w2.heap.size, 1, none⟩ = some (.string R.key) ∧ w'.cell? ⟨w2.heap.size, 2, none⟩ = some (.string R.val) ∧ Below w2.heap.size w2 w') ?_ ?_
    · refine ⟨?_, ?_, ?_, (Below.refl _ w2).alloc (Nat.le_refl _) _⟩
      all_goals go_simp
    rintro w3 ⟨r0, r1, r2, hb3⟩
    have B3 := bnext B2 hb3
    have q0 := cell_next r0
    have q1 := cell_next r1
    have q2 := cell_next r2
    have e0 := s0 _ B3
    have e1 := s1 _ B3
    clear r0 r1 r2
    go_wp2
    go_loopw [7, 27] (fun z i wr => ∃ (k : Nat) (y : Int), k ≤ l.length ∧ i = .int .i64 k ∧ z = .int .i64 y ∧ LastIs l key k y ∧ Below w3.heap.size w3 wr) (fun _ i _ => l.length - (intOf i).toNat)
    case atStart => exact ⟨0, -1, Nat.zero_le _, rfl, rfl, .inl ⟨rfl, fun i hi => by omega⟩, Below.refl _ _⟩
    case round =>
      obtain ⟨k, y, hk, rfl, rfl, hlast, hbr⟩ := hrel
      have BR := bnext B3 hbr
      have HLast := Lib.hid hlast
      clear e0 e1 hlast
      have e0 := s0 _ BR
      have e1 := s1 _ BR
      by_cases hlt : k < l.length
      · obtain ⟨b, off, rfl, f0, f1, f2⟩ := (HO.out _ BR).cells (Below.refl _ wr) k hlt
        have hkx : keyIs l key k = (l[k].key.toList == key.toList) := by unfold keyIs; rw [opAtB_get hlt]
        have Hkx := Lib.hid hkx
        clear hkx
        cases hq : (l[k].key.toList == key.toList) with
        | true =>
          have Hn : Hid (LastIs l key (k + 1) (k : Nat)) := Lib.hid (.inr ⟨k, by omega, rfl, by rw [Hkx.out, hq], fun i h1 h2 => by omega⟩)
          clear Hkx
          generalize l[k] = x at *
          go_wp2
          go_roundw
          case rel => exact ⟨k + 1, _, by omega, by go_num, rfl, Hn.out, hbr⟩
          case measure => simp [intOf]; omega
        | false =>
          have Hn : Hid (LastIs l key (k + 1) y) := Lib.hid (by
            have hkf : keyIs l key k = false := by rw [Hkx.out, hq]
            rcases HLast.out with ⟨h1, h2⟩ | ⟨j, h1, h2, h3, h4⟩
            · refine .inl ⟨h1, fun i hi => ?_⟩
              by_cases e : i = k
              · rw [e]; exact hkf
              · exact h2 i (by omega)
            · refine .inr ⟨j, by omega, h2, h3, fun i hi hi2 => ?_⟩
              by_cases e : i = k
              · rw [e]; exact hkf
              · exact h4 i hi (by omega))
          clear Hkx
          generalize l[k] = x at *
          go_wp2
          go_roundw
          case rel => exact ⟨k + 1, y, by omega, by go_num, rfl, Hn.out, hbr⟩
          case measure => simp [intOf]; omega
      · obtain rfl : k = l.length := by omega
        have p0 := q0 _ hbr
        have p1 := q1 _ hbr
        have p2 := q2 _ hbr
        rcases HRz.out with ⟨rfl, rfl, hall⟩ | ⟨rfl, j, hj, rfl, hj1, hj2⟩
        · have hy : y = -1 := by
            rcases HLast.out with ⟨h1, _⟩ | ⟨j, h1, h2, h3, _⟩
            · exact h1
            · rw [hall j h1] at h3; cases h3
          subst hy
          have heq := eqOp ⟨0, ⟨#[]⟩, ⟨#[]⟩⟩ ⟨0, ⟨#[]⟩, ⟨#[]⟩⟩
          rw [opeq_self] at heq
          clear hall
          dsimp only at p0 p1 p2 heq
          go_wp2_with fail; (with_reducible refine (awake_any _).mono ?_); rintro e w5 ⟨rfl, hb5⟩
          go_wp2
          go_ret
          exact ⟨rfl, hb0.trans ((bnext BR hb5).mono hb0.size)⟩
        · have hy : y = (j : Nat) := by
            rcases HLast.out with ⟨_, h2⟩ | ⟨i, h1, h2, h3, h4⟩
            · rw [h2 j hj] at hj1; cases hj1
            · have : i = j := by
                rcases Nat.lt_trichotomy i j with h | h | h
                · rw [h4 j h hj] at hj1; cases hj1
                · exact h
                · rw [hj2 i h h1] at h3; cases h3
              rw [h2, this]
          subst hy
          obtain ⟨b, off, rfl, f0, f1, f2⟩ := (HO.out _ BR).cells (Below.refl _ wr) j hj
          rw [← opAtB_get hj] at f0 f1 f2
          have heq := eqOp (opAtB l j) (opAtB l j)
          rw [opeq_self] at heq
          clear hj1 hj2
          generalize opAtB l j = x at *
          have t0 := cell_next p0
          have t1 := cell_next p1
          have t2 := cell_next p2
          have u0 := cell_next f0
          have u1 := cell_next f1
          have u2 := cell_next f2
          have v0 := cell_next e0
          have v1 := cell_next e1
          have Bq := bnext_grow (Below.refl wr.heap.size wr)
          have hjI : (j : Int) < (l.length : Int) := by omega
          clear p0 p1 p2 f0 f1 f2 e0 e1 s0 s1 q0 q1 q2
          go_upto_region 13 with fail
          refine wp_region_quiet_below (by kernel_rfl) (by kernel_rfl) ?_; (repeat (go_big_quiet_step ((go_at_call 11; (with_reducible refine Calls.regrown_of (awake_any _)))))); refine wpQuiet_nil ?_; rintro _ ⟨pq, rfl⟩
          go_wp2
          go_ret
          exact ⟨rfl, hb0.trans ((bnext BR (Bq _ _)).mono hb0.size)⟩
end Go.Proofs.Ytmgifejmheoddaa
