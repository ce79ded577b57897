/- AllocLowest: its walk. -/
import Derived.Test.YtcgjkgcafkcgoaaAlList
import Derived.Test.YtcgjkgcafkcgoaaInts
namespace Go.Proofs.Ytcgjkgcafkcgoaa
open Go.RowKit
set_option linter.unusedVariables false
set_option linter.unusedSimpArgs false

theorem places_count (R : List Int) (v : Int) : ∀ k, k ≤ R.length → (places R v k).length = (R.take k).count v
  | 0, _ => rfl
  | k + 1, h => by
    have ih := places_count R v k (by omega)
    rw [List.take_succ_eq_append_getElem (by omega), List.count_append, ← ih]
    cases hv : (R.getD k 0 == v) with
    | true =>
      rw [places_yes hv, List.length_append]
      rw [getD_at (by omega)] at hv
      have e : R[k] = v := by simpa using hv
      simp [e]
    | false =>
      rw [places_no hv]
      rw [getD_at (by omega)] at hv
      have e : ¬ R[k] = v := by simpa using hv
      simp [e]
theorem places_all (R : List Int) (v : Int) : (places R v R.length).length = R.count v := by
  rw [places_count R v R.length (Nat.le_refl _), List.take_of_length_le (Nat.le_refl _)]
theorem count_set0 {R : List Int} {n : Nat} {x : Int} (hn : n < R.length) (h0 : R[n] = 0) (hx : x ≠ 0) : (R.set n x).count 0 + 1 = R.count 0 := by
  have hp : 0 < R.count 0 := by rw [List.count_pos_iff]; rw [← h0]; exact List.getElem_mem hn
  rw [List.count_set hn]
  simp [h0, hx]
  omega
theorem count_zero {R : List Int} (h : R.count 0 = 0) : ∀ i (hi : i < R.length), R[i] ≠ 0 := fun i hi e => by
  have hp : 0 < R.count 0 := by rw [List.count_pos_iff]; rw [← e]; exact List.getElem_mem hi
  omega
theorem count_none {R : List Int} (h : ∀ i (hi : i < R.length), R[i] ≠ 0) : R.count 0 = 0 := by
  rw [List.count_eq_zero]
  intro hm
  obtain ⟨i, hi, e⟩ := List.getElem_of_mem hm
  exact h i hi e

theorem take_none {w : World} {B p g : Nat} {R : List Int} {qv : Value} (h : TB w B p g R qv) (r : Int) (hr : decide (1 ≤ r ∧ r ≤ 5) = true) (h0 : R.count 0 = 0) :
    Calls Try.prog 11 #[.pointer (some ⟨p, 0, none⟩), .int .i64 r] w fun e w' => e = .returned (.tuple #[.int .i64 0, .int .i64 81]) ∧ w = w' := by
  refine (take_any h r hr).mono ?_
  rintro e w' (⟨rfl, rfl, _⟩ | ⟨n, hn, _, hz, _⟩)
  · exact ⟨rfl, rfl⟩
  · exact absurd hz (count_zero h0 n hn)
theorem take_some {w : World} {B p g : Nat} {R : List Int} {qv : Value} (h : TB w B p g R qv) (r : Int) (hr : decide (1 ≤ r ∧ r ≤ 5) = true) (h0 : 0 < R.count 0) :
    Calls Try.prog 11 #[.pointer (some ⟨p, 0, none⟩), .int .i64 r] w fun e w' => ∃ n : Nat, ∃ hn : n < R.length, e = .returned (.tuple #[.int .i64 n, .int .i64 0]) ∧ R[n] = 0 ∧ (∀ i (h : i < R.length), i < n → R[i] ≠ 0) ∧ TB w' B p g (R.set n r) qv ∧ Below B w w' := by
  refine (take_any h r hr).mono ?_
  rintro e w' (⟨rfl, rfl, hz⟩ | ⟨n, hn, rfl, hz, hm, rfl⟩)
  · rw [count_none hz] at h0; cases h0
  · exact ⟨n, hn, rfl, hz, hm, h.set n r, (Below.refl B w).setCell (p := ⟨g, n, none⟩) h.glt.1 _⟩

set_option maxRecDepth 100000 in
set_option maxHeartbeats 4000000 in
theorem alawake (w : World) : Calls Try.prog 9 #[] w fun e w' => e = .returned (.bool true) ∧ Below w.heap.size w w' := by
  have hn : Calls Try.prog 8 #[.int .i64 2] w fun e w' => ∃ p g, e = .returned (.pointer (some ⟨p, 0, none⟩)) ∧ TB w' w.heap.size p g (List.replicate 2 0) (.slice none 0 0) ∧ Below w.heap.size w w' := alnew 2 w (by decide) (by decide)
  have Hn := Lib.hid hn
  clear hn
  go_enter Try.func9, Try.ntmps9
  go_wp2_with fail; (with_reducible refine (Hn.out).mono ?_); rintro e w1 ⟨p, g, rfl, h1, hb1⟩
  have H1 := Lib.hid h1
  clear h1
  go_wp2_with fail; (with_reducible refine (take_some H1.out 4 (by decide) (by decide)).mono ?_); rintro e w2 ⟨n, hn, rfl, hz, hm, h2, hb2⟩
  obtain rfl : n = 0 := by
    rcases Nat.eq_zero_or_pos n with e | e
    · exact e
    · exact absurd (by simp) (hm 0 (by simp) e)
  have H2 := Lib.hid h2
  have HB2 := Lib.hid (hb1.trans hb2)
  clear h2 hz hm hn hb1 hb2
  go_wp2_with fail; (with_reducible refine (take_some H2.out 5 (by decide) (by decide)).mono ?_); rintro e w3 ⟨n, hn, rfl, hz, hm, h3, hb3⟩
  obtain rfl : n = 1 := by
    have hn2 : n < 2 := by simpa using hn
    rcases Nat.eq_zero_or_pos n with e | e
    · subst e; exact absurd hz (by simp)
    · omega
  have H3 := Lib.hid h3
  have HB3 := Lib.hid (HB2.out.trans hb3)
  clear h3 hz hm hn hb3
  go_wp2_with fail; (with_reducible refine (take_none H3.out 1 (by decide) (by decide)).mono ?_); rintro e w4 ⟨rfl, rfl⟩
  go_wp2_with fail; (with_reducible refine (role_any H3.out 1 5 (by decide)).mono ?_); rintro e w4 ⟨rfl, rfl⟩
  go_wp2
  go_ret
  exact ⟨rfl, HB3.out⟩

set_option maxRecDepth 100000 in
set_option maxHeartbeats 8000000 in
theorem alow_yes {w : World} {a : Option Addr} {c : Nat} {l : List Int} (h : IR w a l) (hl : l.length ≤ maxLen) (zs role : Int) :
    Calls Try.prog 3 #[.int .i64 zs, .slice a l.length c, .int .i64 role] w fun e w' => e = .returned (.bool true) ∧ Below w.heap.size w w' := by
  unfold maxLen at hl
  have H := Lib.hid h
  clear h
  by_cases hzs : 1 ≤ zs ∧ zs ≤ 64
  case neg =>
    have hbad := alnew_bad zs w (by omega)
    have Hbad := Lib.hid hbad
    by_cases hz3 : zs < 1
    · clear hzs hbad
      go_enter Try.func3, Try.ntmps3
      go_wp2_with fail; (with_reducible refine (Hbad.out).mono ?_); rintro e w1 ⟨rfl, rfl⟩
      go_wp2_with fail; (with_reducible refine (alawake _).mono ?_); rintro e w2 ⟨rfl, hb2⟩
      go_wp2
      go_ret
      exact ⟨rfl, hb2⟩
    · have hz4 : 64 < zs := by omega
      have hz5 : 1 ≤ zs := by omega
      clear hzs hbad
      go_enter Try.func3, Try.ntmps3
      go_wp2_with fail; (with_reducible refine (Hbad.out).mono ?_); rintro e w1 ⟨rfl, rfl⟩
      go_wp2_with fail; (with_reducible refine (alawake _).mono ?_); rintro e w2 ⟨rfl, hb2⟩
      go_wp2
      go_ret
      exact ⟨rfl, hb2⟩
  case pos =>
    obtain ⟨n, rfl⟩ := Int.eq_ofNat_of_zero_le (show 0 ≤ zs by omega)
    have hn1 : 1 ≤ n := by omega
    have hn2 : n ≤ 64 := by omega
    clear hzs
    go_enter Try.func3, Try.ntmps3
    go_wp2_with fail; (with_reducible refine (alnew n w hn1 hn2).mono ?_); rintro e w1 ⟨p, g, rfl, h1, hb1⟩
    have H1 := Lib.hid h1
    have HB1 := Lib.hid hb1
    clear h1 hb1
    by_cases hl80 : l.length ≤ 80
    case neg =>
      have hl80 : 80 < l.length := by omega
      go_wp2_with fail; (with_reducible refine (alawake _).mono ?_); rintro e w2 ⟨rfl, hb2⟩
      go_wp2
      go_ret
      exact ⟨rfl, HB1.out.trans (hb2.mono HB1.out.size)⟩
    go_wp2
    go_loopw [8, 41] (fun f i wr => ∃ (k : Nat) (R : List Int), k ≤ l.length ∧ i = .int .i64 k ∧ f = .int .i64 (R.count 0 : Nat) ∧ R.length = n ∧ TB wr w.heap.size p g R (.slice none 0 0) ∧ Below w.heap.size w wr) (fun _ i _ => l.length - (intOf i).toNat)
    case atStart => exact ⟨0, List.replicate n 0, Nat.zero_le _, rfl, by simp, List.length_replicate, H1.out, HB1.out⟩
    case round =>
      obtain ⟨k, R, hk, rfl, rfl, hR, hT, hbr⟩ := hrel
      have HT := Lib.hid hT
      clear hT
      have hcl : R.count 0 ≤ 64 := Nat.le_trans List.count_le_length (by omega)
      by_cases hlt : k < l.length
      · obtain ⟨b, off, rfl, f0, x1, x2⟩ := H.out.cell hbr k hlt
        generalize l[k] = x at *
        by_cases hy : ∃ m : Nat, ∃ h : m < R.length, x = m ∧ R[m] = 0
        · obtain ⟨m, hm, rfl, hm0⟩ := hy
          have hpos : 0 < R.count 0 := by rw [List.count_pos_iff]; rw [← hm0]; exact List.getElem_mem hm
          have hcs := count_set0 (x := 1) hm hm0 (by decide)
          have ho := own_yes HT.out m hm hm0
          have Ho := Lib.hid ho
          have hT2 := HT.out.set m 1
          have HT2 := Lib.hid hT2
          have hB2 := hbr.setCell (p := ⟨g, m, none⟩) HT.out.glt.1 (.int .i64 1)
          have HB2 := Lib.hid hB2
          have Hcs := Lib.hid hcs
          clear ho hT2 hB2 hm0 hcs
          generalize R.count 0 = cc at *
          go_wp2_with fail; (with_reducible refine (Ho.out).mono ?_); rintro e w3 ⟨rfl, rfl⟩
          go_wp2
          go_roundw
          case rel => exact ⟨k + 1, R.set m 1, by omega, by go_num, by have := Hcs.out; go_num, by rw [List.length_set]; exact hR, HT2.out, HB2.out⟩
          case measure => simp [intOf]; omega
        · have hne : roleAt R x ≠ 0 := by
            unfold roleAt
            split
            · rename_i hc
              intro e
              obtain ⟨m, rfl⟩ := Int.eq_ofNat_of_zero_le hc.1
              have hm : m < R.length := by omega
              rw [Int.toNat_natCast, getD_at hm] at e
              exact hy ⟨m, hm, rfl, e⟩
            · decide
          have ho := own_no HT.out x hne
          have Ho := Lib.hid ho
          clear ho hne hy
          go_wp2_with fail; (with_reducible refine (Ho.out).mono ?_); rintro e w3 ⟨y, rfl, hy0, rfl⟩
          go_wp2
          go_roundw
          case rel => exact ⟨k + 1, R, by omega, by go_num, rfl, hR, HT.out, hbr⟩
          case measure => simp [intOf]; omega
      · by_cases hrole : decide (1 ≤ role ∧ role ≤ 5) = true
        case neg =>
          have hrole : decide (1 ≤ role ∧ role ≤ 5) = false := by simpa using hrole
          have hr2 : role < 1 ∨ (1 ≤ role ∧ 5 < role) := by
            have := of_decide_eq_false hrole; omega
          have Hrole := Lib.hid hrole
          have hpl : ((places R 0 R.length).length : Int) = (R.count 0 : Nat) := by rw [places_all]
          have Hpl := Lib.hid hpl
          clear hrole hpl
          generalize R.count 0 = cc at *
          rcases hr2 with hr2 | ⟨hr3, hr2⟩
          all_goals
            rcases Nat.eq_zero_or_pos cc with hc0 | hc0
            · subst hc0
              go_wp2
              go_loopw [11, 53] (fun y i wx => i = .int .i64 0 ∧ wx = wr) (fun _ _ _ => 0)
              case atStart => exact ⟨rfl, rfl⟩
              case round =>
                obtain ⟨rfl, rfl⟩ := hrel
                go_wp2_with fail; (with_reducible refine (alawake _).mono ?_); rintro e w2 ⟨rfl, hb2⟩
                go_wp2
                go_ret
                exact ⟨rfl, bnext hbr hb2⟩
            · go_wp2
              go_loopw [11, 53] (fun y i wx => i = .int .i64 0 ∧ wx = wr) (fun _ _ _ => 0)
              case atStart => exact ⟨rfl, rfl⟩
              case round =>
                obtain ⟨rfl, rfl⟩ := hrel
                go_wp2_with fail; (with_reducible refine (take_bad HT.out role Hrole.out).mono ?_); rintro e w2 ⟨rfl, rfl⟩
                go_wp2_with fail; (with_reducible refine (count_any HT.out 0 _ Hpl.out).mono ?_); rintro e w3 ⟨rfl, hb3⟩
                go_wp2_with fail; (with_reducible refine (alawake _).mono ?_); rintro e w4 ⟨rfl, hb4⟩
                go_wp2
                go_ret
                exact ⟨rfl, bnext (bnext hbr hb3) hb4⟩
        case pos =>
          have Hrole := Lib.hid hrole
          obtain ⟨hr1, hr2⟩ := of_decide_eq_true hrole
          have HC : Hid (∀ cc, R.count 0 = cc → R.count 0 = cc) := Lib.hid fun _ h => h
          obtain ⟨cc, hcc⟩ : ∃ cc, R.count 0 = cc := ⟨_, rfl⟩
          have Hcc := Lib.hid hcc
          rw [hcc] at hcl ⊢
          clear hrole hcc HC
          go_wp2
          go_loopw [11, 53] (fun y i wx => ∃ (k : Nat) (Q : List Int) (z : Int), k ≤ cc ∧ i = .int .i64 k ∧ y = .int .i64 z ∧ -1 ≤ z ∧ z ≤ 64 ∧ Q.length = n ∧ Q.count 0 + k = cc ∧ (∀ i (h : i < Q.length), (i : Int) ≤ z → Q[i] ≠ 0) ∧ TB wx w.heap.size p g Q (.slice none 0 0) ∧ Below w.heap.size w wx) (fun _ i _ => cc - (intOf i).toNat)
          case atStart => exact ⟨0, R, -1, Nat.zero_le _, rfl, rfl, by decide, by decide, hR, Hcc.out, fun i _ h => by omega, HT.out, hbr⟩
          case round =>
            clear hbr hk
            obtain ⟨k, Q, z, hk, rfl, rfl, hz1, hz2, hQ, hqc, hmin, hTQ, hbr⟩ := hrel
            have HTQ := Lib.hid hTQ
            have Hmin := Lib.hid hmin
            clear hTQ hmin
            by_cases hlt2 : k < cc
            · go_wp2_with fail; (with_reducible refine (take_some HTQ.out role Hrole.out (by omega)).mono ?_); rintro e w2 ⟨m, hm, rfl, hm0, hm1, hT2, hb2⟩
              have hzm : z < (m : Int) := by
                rcases Int.lt_or_le z m with h | h
                · exact h
                · exact absurd hm0 (Hmin.out m hm h)
              have hcs := count_set0 (x := role) hm hm0 (by omega)
              have Hcs := Lib.hid hcs
              have HT2 := Lib.hid hT2
              have hB2 := hbr.trans (hb2.mono (Nat.le_refl _))
              have HB2 := Lib.hid hB2
              have hrl : roleAt (Q.set m role) m = role := by rw [roleAt_in (by rw [List.length_set]; exact hm)]; simp
              have Hrl := Lib.hid hrl
              have Hm2 : Hid (∀ i (h : i < (Q.set m role).length), (i : Int) ≤ (m : Int) → (Q.set m role)[i] ≠ 0) := Lib.hid fun i hi him => by
                rw [List.getElem_set]
                split
                · omega
                · rename_i hne
                  exact hm1 i (by simpa using hi) (by omega)
              clear hm0 hm1 hcs hT2 hb2 hB2 hrl
              go_wp2_with fail; (with_reducible refine (role_any HT2.out m role Hrl.out).mono ?_); rintro e w3 ⟨rfl, rfl⟩
              go_wp2
              go_roundw
              case rel => exact ⟨k + 1, Q.set m role, m, by omega, by go_num, rfl, by omega, by omega, by rw [List.length_set]; exact hQ, by have := Hcs.out; omega, Hm2.out, HT2.out, HB2.out⟩
              case measure => simp [intOf]; omega
            · have hq0 : Q.count 0 = 0 := by omega
              have hpl : ((places Q 0 Q.length).length : Int) = 0 := by rw [places_all, hq0]; rfl
              have Hpl := Lib.hid hpl
              have Hq0 := Lib.hid hq0
              clear hpl hq0
              go_wp2_with fail; (with_reducible refine (take_none HTQ.out role Hrole.out Hq0.out).mono ?_); rintro e w2 ⟨rfl, rfl⟩
              go_wp2_with fail; (with_reducible refine (count_any HTQ.out 0 _ Hpl.out).mono ?_); rintro e w3 ⟨rfl, hb3⟩
              go_wp2_with fail; (with_reducible refine (alawake _).mono ?_); rintro e w4 ⟨rfl, hb4⟩
              go_wp2
              go_ret
              exact ⟨rfl, bnext (bnext hbr hb3) hb4⟩
end Go.Proofs.Ytcgjkgcafkcgoaa
